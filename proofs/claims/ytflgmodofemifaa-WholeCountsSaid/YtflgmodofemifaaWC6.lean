/-
  Joined texts: the trie's map: keyed by a node and a letter; what it holds, in words. · the trie in memory; (*trie).add: the walk. · the store: known, at, find. · the store: add.
-/
import Derived.Test.YtflgmodofemifaaWC5
import Derived.Test.YtflgmodofemifaaWC2
import Derived.Maps.OwnSet
import Derived.DeepKeys4
import Derived.Deep.RegionLaw
import Derived.BigRegion
import Derived.IntWalk
import Derived.WalkLawsBesides

/- the trie's map: keyed by a node and a letter; what it holds, in words. -/
namespace Go.Proofs.Ytflgmodofemifaa
open Go.RowKit Go.Maps
set_option linter.unusedVariables false
set_option linter.unusedSimpArgs false

theorem laidOut0 : laidOutB Try.prog = true := by kernel_rfl
theorem klaw : Keyed Try.prog 103 := Keyed.of_law (deep_law_laid laidOut0 (m := 100) (by decide) (by decide +kernel) (by kernel_rfl) (by kernel_rfl))
theorem zeroI (w : World) : (zeroValue 3).run Try.prog w = .ok (.int .i64 0) w := by kernel_rfl

/-- what a key reads as -/
def kd (i b : Int) : Lit := .string (keyBytes [.int .i64 i, .int .u8 b])

theorem keyOf_edge {i b : Int} (wi : (Lit.int .i64 i).wf = true) (wb : (Lit.int .u8 b).wf = true) : keyOf Try.prog 103 (.agg #[.int .i64 i, .int .u8 b]) = some (kd i b) := by
  have hkt : Try.prog.keyType 103 = true := by kernel_rfl
  have hc : Try.prog.cellsOf 103 = 2 := by kernel_rfl
  have hc1 : Try.prog.cellsOf 3 = 1 := by kernel_rfl
  have hc2 : Try.prog.cellsOf 5 = 1 := by kernel_rfl
  have h1 := Try.underlying103
  have hf : Value.formed Try.prog 103 (.agg #[.int .i64 i, .int .u8 b]) = true := by simp [Value.formed, h1, hc]
  obtain ⟨m, hm⟩ : ∃ m, Try.prog.types.size = m + 1 := ⟨Try.prog.types.size - 1, by decide +kernel⟩
  unfold keyOf
  simp only [h1]
  rw [if_pos (by simp [hkt, hf]), hm]
  unfold Program.keyLits
  simp only [h1, Value.cells]
  rw [if_pos ⟨by rw [hc]; rfl, by decide +kernel⟩]
  simp [Program.keyLits, Try.underlying3, Try.underlying5, hc1, hc2, wi, wb, kd]

theorem kd_inj {i j a b : Int} (wi : (Lit.int .i64 i).wf = true) (wa : (Lit.int .u8 a).wf = true) (wj : (Lit.int .i64 j).wf = true) (wb : (Lit.int .u8 b).wf = true) (h : kd i a = kd j b) : i = j ∧ a = b := by
  have h1 := keyOf_edge wi wa
  have h2 := keyOf_edge wj wb
  rw [← h] at h2
  have := klaw.inj h1 h2
  simpa using this
theorem kd_key {i b : Int} (wi : (Lit.int .i64 i).wf = true) (wb : (Lit.int .u8 b).wf = true) : WideAt.IsKeyLit (kd i b) := klaw.key (keyOf_edge wi wb)

/-- what the map holds of the words: from each word, by each letter, the word that is one longer -/
def MapIs (D : DataW Unit) (W : List (List Int)) : Prop :=
  ∀ (i : Nat) (b : Int), i < 4294967296 → 0 ≤ b → b ≤ 255 → Maps.has D (kd i b) = decide (i < W.length ∧ W.getD i [] ++ [b] ∈ W) ∧
    (i < W.length → W.getD i [] ++ [b] ∈ W → ∀ z, D.atKey (kd i b) z = .lit (.int .i64 (W.idxOf (W.getD i [] ++ [b]) : Nat)))

theorem wf_u8 {b : Int} (h0 : 0 ≤ b) (h1 : b ≤ 255) : (Lit.int .u8 b).wf = true := by
  simp [Lit.wf, IntKind.min, IntKind.max, IntKind.signed, IntKind.bits]; omega
theorem wf_nat {i : Nat} (h : i < 4294967296) : (Lit.int .i64 (i : Int)).wf = true := by
  simp [Lit.wf, IntKind.min, IntKind.max, IntKind.signed, IntKind.bits]; omega

theorem mapIs_start : MapIs (.map []) [[]] := by
  intro i b hi h0 h1
  refine ⟨?_, fun h hm => ?_⟩
  · show false = _
    symm
    rw [decide_eq_false_iff_not]
    rintro ⟨_, h⟩
    rw [List.mem_singleton] at h
    simp at h
  · rw [List.mem_singleton] at hm; simp at hm

theorem MapIs.put {D : DataW Unit} {W : List (List Int)} (h : MapIs D W) (hD : IsMap D) (hn : W.Nodup) (hc : Closed W) (hl : W.length < 4294967296) {j : Nat} {b : Int} (hj : j < W.length) (h0 : 0 ≤ b) (h1 : b ≤ 255) (hx : W.getD j [] ++ [b] ∉ W) :
    MapIs (D.put (kd j b) (.lit (.int .i64 (W.length : Nat)))) (W ++ [W.getD j [] ++ [b]]) := by
  have wj := wf_nat (i := j) (by omega)
  have wb := wf_u8 h0 h1
  intro i c hi c0 c1
  have wi := wf_nat hi
  have wc := wf_u8 c0 c1
  by_cases e : (i : Int) = j ∧ c = b
  · obtain ⟨e1, e2⟩ := e
    obtain rfl : i = j := by omega
    subst e2
    have hg : (W ++ [W.getD i [] ++ [c]]).getD i [] = W.getD i [] := by simp [List.getD, List.getElem?_append, hj]
    rw [hg]
    refine ⟨?_, fun _ _ z => ?_⟩
    · rw [has_put_same hD (kd_key wi wc)]
      symm
      rw [decide_eq_true_eq]
      exact ⟨by simp; omega, by simp⟩
    · rw [atKey_put_same hD (kd_key wi wc), idx_new hx]
  · have hne : kd i c ≠ kd j b := fun h => e (kd_inj wi wc wj wb h)
    obtain ⟨g1, g2⟩ := h i c hi c0 c1
    rw [has_put_other hne, g1]
    by_cases hiW : i < W.length
    · have hg : (W ++ [W.getD j [] ++ [b]]).getD i [] = W.getD i [] := by simp [List.getD, List.getElem?_append, hiW]
      rw [hg]
      have hne2 : W.getD i [] ++ [c] ≠ W.getD j [] ++ [b] := by
        intro h
        have h3 := List.append_inj' h rfl
        have h4 : i = j := by rw [← idx_getD hn hiW, ← idx_getD hn hj, h3.1]
        exact e ⟨by omega, by simpa using h3.2⟩
      refine ⟨?_, fun _ hm z => ?_⟩
      · rw [decide_eq_decide]
        simp only [hiW, true_and, List.mem_append, List.mem_singleton, hne2, or_false, List.length_append, List.length_singleton]
        constructor
        · intro h; exact ⟨by omega, h⟩
        · intro h; exact h.2
      · rw [atKey_put_other hne]
        have hm2 : W.getD i [] ++ [c] ∈ W := by
          rcases List.mem_append.1 hm with h | h
          · exact h
          · rw [List.mem_singleton] at h; exact absurd h hne2
        rw [g2 hiW hm2, idx_app hm2]
    · have hno : ¬ (i < (W ++ [W.getD j [] ++ [b]]).length ∧ (W ++ [W.getD j [] ++ [b]]).getD i [] ++ [c] ∈ W ++ [W.getD j [] ++ [b]]) := by
        rintro ⟨h2, h3⟩
        simp only [List.length_append, List.length_singleton] at h2
        obtain rfl : i = W.length := by omega
        have hg : (W ++ [W.getD j [] ++ [b]]).getD W.length [] = W.getD j [] ++ [b] := by simp [List.getD]
        rw [hg] at h3
        rcases List.mem_append.1 h3 with h | h
        · exact hx (hc.pre h)
        · rw [List.mem_singleton] at h
          have := congrArg List.length h
          simp at this
      refine ⟨?_, fun h2 h3 => absurd ⟨h2, h3⟩ hno⟩
      rw [decide_eq_decide]
      constructor
      · rintro ⟨h, _⟩; exact absurd h hiW
      · intro h; exact absurd h hno

end Go.Proofs.Ytflgmodofemifaa

/- the trie in memory; (*trie).add: the walk. -/
namespace Go.Proofs.Ytflgmodofemifaa
open Go.RowKit Go.Maps
set_option linter.unusedVariables false
set_option linter.unusedSimpArgs false

theorem EI : Elt Try.prog 28 3 .i64 8 := ⟨Try.underlying28, info_parts (by kernel_rfl)⟩

theorem EIG : EltG Try.prog 28 3 (.int .i64 0) 1 8 := ⟨Try.underlying28, info_parts (by kernel_rfl), rfl, by decide⟩

theorem Row.addr {w : World} {base e size a n c m xs} (h : Row w base e size (.slice a n c) m xs) (hn : 0 < n) : ∃ g, a = some ⟨g, 0, none⟩ ∧ base ≤ g := by
  rcases h.2 with ⟨hv, h0⟩ | ⟨g, cap, cur, hv, hb, _⟩
  · cases hv; omega
  · cases hv; exact ⟨g, rfl, hb⟩
theorem Own.cellAt {w : World} {base e g n c} {k : IntKind} {l : List Int} (h : Own w base e k (.slice (some ⟨g, 0, none⟩) n c) l) (hn : n = l.length) {i : Nat} {x : Int} (hx : l[i]? = some x) : w.cell? ⟨g, i, none⟩ = some (.int k x) := by
  subst hn
  have hi : i < l.length := (List.getElem?_eq_some_iff.1 hx).1
  rw [World.ownsRow.cellAt h i (by simpa using hi), List.getElem?_map, hx]; rfl
/-- a row of integers behind an append, and where it lies -/
theorem own_app {w' : World} {base e g c n a' c' : _} {k : IntKind} {l : List Int} {x : Int} {B0 : Nat} (hn : n = l.length) (hr : Row w' base e 1 (.slice a' (n + 1) c') (n + 1) (l.map (Value.int k) ++ [.int k x]))
    (hat : (Value.slice a' (n + 1) c').ownBlock = (Value.slice (some ⟨g, 0, none⟩) n c).ownBlock ∨ (Value.slice a' (n + 1) c').ownBlock = some B0) :
    Own w' base e k (.slice a' (l ++ [x]).length c') (l ++ [x]) ∧ ∃ g', a' = some ⟨g', 0, none⟩ ∧ (g' = g ∨ g' = B0) := by
  subst hn
  refine ⟨by unfold Own; simpa using hr, ?_⟩
  obtain ⟨g', rfl, _⟩ := Row.addr hr (by omega)
  refine ⟨g', rfl, ?_⟩
  rcases hat with h | h
  · exact .inl (by simpa [Value.ownBlock] using h)
  · exact .inr (by simpa [Value.ownBlock] using h)

theorem bow {B : Nat} {a b : World} (h : Below B a b) (hB : B ≤ a.heap.size) {c : World} (k : Below a.heap.size b c) : Below B a c := h.trans (k.mono hB)

theorem ownsMap_fr {H : Type} {P : Program} {k : TypeId} {R : Value → Option (DataW H × List MemPlace)} {w w' : World} {b n : Nat} {D : DataW H} {S : Nat → Prop} (h : w.ownsMap P k R b n D) (hf : Fr S w w') (hn : ¬ S b) : w'.ownsMap P k R b n D := by
  obtain ⟨es, clock, hb, r⟩ := h
  exact ⟨es, clock, (hf.block b (Array.getElem?_eq_some_iff.1 hb).1 hn).trans hb, r⟩

/-- a store into a row of integers of the call's own -/
theorem store_int {P : Program} {w : World} {ops : Array Oper} {rest : List Oper} {o : Oper} {a : Act} {Q : Exit → Act → World → Prop} (hgd : o.guard = none) (ty : TypeId) (k : IntKind) (x y : Operand) (ho : o.op = .store ty x y)
    (g j : Nat) (hx : a.eval x = .pointer (some ⟨g, j, none⟩)) (u : Int) (hy : a.eval y = .int k u) (hi : (P.info? ty).map (·.size) = some 1)
    (base : Nat) (e : TypeId) (n cap : Nat) (l : List Int) (hown : Own w base e k (.slice (some ⟨g, 0, none⟩) n cap) l) (hn : n = l.length) (hj : j < l.length)
    (h : ∀ w', Own w' base e k (.slice (some ⟨g, 0, none⟩) n cap) (l.set j u) → w.grownBy w' (some g) → wpList P ops Q rest (a.put o.dst undef) w') : wpList P ops Q (o :: rest) a w := by
  subst hn
  refine store_row hgd ty x y ho g j hx (.int k u) hy [.int k u] rfl hi (by simp [Value.oneCell']) base e 1 l.length cap _ hown (by simp; omega) ?_
  intro w' hw' hg
  refine h w' ?_ hg
  unfold Own
  rw [List.length_set, List.map_set, List.set_eq_take_append_cons_drop, if_pos (by simpa using hj)]
  simpa using hw'

/-- the trie at block bt: its map at bm, how many patterns each word is at g, which letters occur -/
structure TM (B : Nat) (w : World) (bt bm g c : Nat) (W : List (List Int)) (E : List Int) (U : Nat → Bool) : Prop where
  c0 : w.cell? ⟨bt, 0, none⟩ = some (.map (some bm))
  c1 : w.cell? ⟨bt, 1, none⟩ = some (.slice (some ⟨g, 0, none⟩) E.length c)
  cu : ∀ b, b < 256 → w.cell? ⟨bt, 2 + b, none⟩ = some (.bool (U b))
  fz : ∀ j, w.frozen? ⟨bt, j, none⟩ = false
  own : Own w B 3 .i64 (.slice (some ⟨g, 0, none⟩) E.length c) E
  el : E.length = W.length
  map : ∃ D : DataW Unit, w.ownsMap Try.prog 103 (plainElem Try.prog 3) bm W.length D ∧ MapIs D W
  gb : g ≠ bt
  gm : g ≠ bm
  mb : bm ≠ bt
  bB : B ≤ bt
  mB : B ≤ bm

theorem TM.gB {B w bt bm g c W E U} (h : TM B w bt bm g c W E U) : B ≤ g ∧ g < w.heap.size := by
  have := Row.block_lt h.own (g := g) rfl
  omega
theorem TM.lt {B w bt bm g c W E U} (h : TM B w bt bm g c W E U) : bt < w.heap.size := World.block_lt_of_cell? w _ h.c0
theorem TM.mlt {B w bt bm g c W E U} (h : TM B w bt bm g c W E U) : bm < w.heap.size := by obtain ⟨D, h1, _⟩ := h.map; exact h1.lt

theorem TM.fr {B w w' bt bm g c W E U} {S : Nat → Prop} (h : TM B w bt bm g c W E U) (hf : Fr S w w') (h1 : ¬ S bt) (h2 : ¬ S bm) (h3 : ¬ S g) : TM B w' bt bm g c W E U := by
  obtain ⟨D, m1, m2⟩ := h.map
  exact ⟨hf.cell h.c0 h1, hf.cell h.c1 h1, fun b hb => hf.cell (h.cu b hb) h1, fun j => (hf.frozen (x := ⟨bt, j, none⟩) h.lt h1).trans (h.fz j), Row.fr h.own hf (fun k hk => by cases hk; exact h3), h.el, ⟨D, ownsMap_fr m1 hf h2, m2⟩, h.gb, h.gm, h.mb, h.bB, h.mB⟩
theorem TM.below {B w w' bt bm g c W E U} (h : TM B w bt bm g c W E U) (hb : Below w.heap.size w w') : TM B w' bt bm g c W E U :=
  h.fr (S := fun _ => False) (.of_below hb) (fun h => h) (fun h => h) (fun h => h)

theorem fr_set {w : World} {b j : Nat} {u : Value} : Fr (fun i => i = b) w (w.setCell ⟨b, j, none⟩ u) := Fr.setCell (S := fun i => i = b) (Fr.refl _ w) (p := ⟨b, j, none⟩) rfl u

/-- a letter is marked -/
theorem TM.mark {B w bt bm g c W E U} (h : TM B w bt bm g c W E U) {b : Nat} (hb : b < 256) : TM B (w.setCell ⟨bt, 2 + b, none⟩ (.bool true)) bt bm g c W E (fun x => U x || x == b) := by
  obtain ⟨D, m1, m2⟩ := h.map
  have hf := fr_set (w := w) (b := bt) (j := 2 + b) (u := .bool true)
  refine ⟨set_other (by simp) h.c0, set_other (by simp only [ne_eq, Addr.mk.injEq]; omega) h.c1, fun x hx => ?_, fun j => by rw [World.frozen?_setCell]; exact h.fz j, Row.fr h.own hf (fun k hk => by cases hk; exact h.gb), h.el, ⟨D, ownsMap_fr m1 hf h.mb, m2⟩, h.gb, h.gm, h.mb, h.bB, h.mB⟩
  by_cases e : x = b
  · subst e
    rw [set_same (h.cu x hx)]; simp
  · rw [set_other (by simp [Ne.symm e]) (h.cu x hx)]
    simp [e]

/-- a word is added: the map is written, the row of numbers has grown, its new place is stored -/
theorem TM.push {B w w1 w2 w3 bt bm g c W E U} (h : TM B w bt bm g c W E U) {D' : DataW Unit} {x : List Int} (hm : w1.ownsMap Try.prog 103 (plainElem Try.prog 3) bm (W.length + 1) D') (hg : w.grownBy w1 (some bm)) (hD : MapIs D' (W ++ [x]))
    (hb : Below w1.heap.size w1 w2) {a' c'} (ho : Own w3 B 3 .i64 (.slice a' (E ++ [0]).length c') (E ++ [0])) (hg3 : w2.grownBy w3 (some g)) (hat : ∃ g', a' = some ⟨g', 0, none⟩ ∧ (g' = g ∨ g' = w2.heap.size)) :
    ∃ g', a' = some ⟨g', 0, none⟩ ∧ TM B (w3.setCell ⟨bt, 1, none⟩ (.slice a' (E ++ [0]).length c')) bt bm g' c' (W ++ [x]) (E ++ [0]) U ∧ Fr (fun i => i = bm ∨ i = g ∨ i = bt) w (w3.setCell ⟨bt, 1, none⟩ (.slice a' (E ++ [0]).length c')) := by
  obtain ⟨g', rfl, hg'⟩ := hat
  have hlt := h.lt
  have hml := h.mlt
  have hgl := h.gB
  have h12 := hb.size
  have h01 := hg.size
  have hf1 : Fr (fun i => i = bm) w w1 := Fr.of_grown hg (fun k hk => by cases hk; rfl)
  have hf2 : Fr (fun i => i = bm) w w2 := hf1.trans (.of_below hb)
  have hf3 : Fr (fun i => i = bm ∨ i = g) w w3 := (hf2.mono fun i hi => .inl hi).trans ((Fr.of_grown hg3 (S := fun i => i = bm ∨ i = g) (fun k hk => by cases hk; exact .inr rfl)))
  have hbt : ¬ (bt = bm ∨ bt = g) := by have := h.mb; have := h.gb; omega
  have hg'b : g' ≠ bt := by rcases hg' with e | e; rw [e]; exact h.gb; omega
  have hg'm : g' ≠ bm := by rcases hg' with e | e; rw [e]; exact h.gm; omega
  have hfs := fr_set (w := w3) (b := bt) (j := 1) (u := .slice (some ⟨g', 0, none⟩) (E ++ [0]).length c')
  have hmap2 := hm.kept (row := none) (w' := w2) ⟨hb.os, hb.tape, hb.output, hb.size, fun k hk _ => hb.block k hk⟩ (by simp)
  have hmap3 := hmap2.kept hg3 (by have := h.gm; simp; omega)
  refine ⟨g', rfl, ⟨set_other (by simp) (hf3.cell h.c0 hbt), set_same (hf3.cell h.c1 hbt), fun b hb => set_other (by simp only [ne_eq, Addr.mk.injEq]; omega) (hf3.cell (h.cu b hb) hbt), fun j => by rw [World.frozen?_setCell]; exact (hf3.frozen (x := ⟨bt, j, none⟩) hlt hbt).trans (h.fz j),
    Row.fr ho hfs (fun k hk => by cases hk; exact hg'b), by simp [h.el], ⟨D', ?_, hD⟩, hg'b, hg'm, h.mb, h.bB, h.mB⟩, ?_⟩
  · have := ownsMap_fr hmap3 hfs h.mb
    rw [show (W ++ [x]).length = W.length + 1 by simp]; exact this
  · exact (hf3.mono (T := fun i => i = bm ∨ i = g ∨ i = bt) fun i hi => by rcases hi with e | e; exact .inl e; exact .inr (.inl e)).trans (hfs.mono fun i hi => .inr (.inr hi))

/-- a number is written -/
theorem TM.inc {B w w' bt bm g c W E U} (h : TM B w bt bm g c W E U) {E' : List Int} (hl : E'.length = E.length) (ho : Own w' B 3 .i64 (.slice (some ⟨g, 0, none⟩) E.length c) E') (hg : w.grownBy w' (some g)) : TM B w' bt bm g c W E' U := by
  obtain ⟨D, m1, m2⟩ := h.map
  have hf : Fr (fun i => i = g) w w' := Fr.of_grown hg (fun k hk => by cases hk; rfl)
  have h1 : ¬ bt = g := fun e => h.gb e.symm
  have h2 : ¬ bm = g := fun e => h.gm e.symm
  refine ⟨hf.cell h.c0 h1, by rw [hl]; exact hf.cell h.c1 h1, fun b hb => hf.cell (h.cu b hb) h1, fun j => (hf.frozen (x := ⟨bt, j, none⟩) h.lt h1).trans (h.fz j), by rw [hl]; exact ho, by rw [hl]; exact h.el, ⟨D, ownsMap_fr m1 hf h2, m2⟩, h.gb, h.gm, h.mb, h.bB, h.mB⟩

section
variable {w : World} {ops : Array Oper} {rest : List Oper} {o : Oper} {a : Act} {Q : Exit → Act → World → Prop}
/-- a look-up of a word that is there -/
theorem look_hit (hg : o.guard = none) (m x : Operand) (hop : o.op = Op.lookup 53 m x true) {bm : Nat} {W : List (List Int)} (hmap : ∃ D : DataW Unit, w.ownsMap Try.prog 103 (plainElem Try.prog 3) bm W.length D ∧ MapIs D W)
    (hm : a.eval m = .map (some bm)) (i : Nat) (b : Int) (hx : a.eval x = .agg #[.int .i64 i, .int .u8 b]) (hi : i < W.length) (hl : W.length < 4294967296) (h0 : 0 ≤ b) (h1 : b ≤ 255) (xw : List Int) (hxw : W.getD i [] ++ [b] = xw) (hmem : xw ∈ W)
    (hK : wpList Try.prog ops Q rest (a.put o.dst (.tuple #[.int .i64 (W.idxOf xw : Nat), .bool true])) w) : wpList Try.prog ops Q (o :: rest) a w := by
  subst hxw
  obtain ⟨D, hown, hM⟩ := hmap
  obtain ⟨g1, g2⟩ := hM i b (by omega) h0 h1
  refine wpList_lookup_own_ok_int w hg m x _ hop 103 3 .i64 klaw Try.underlying53 Try.underlying3 (zeroI _) bm _ D hm hown _ _ hx (keyOf_edge (wf_nat (by omega)) (wf_u8 h0 h1)) ?_
  intro c hat _
  rw [g2 hi hmem] at hat
  have hc : (W.idxOf (W.getD i [] ++ [b]) : Nat) = c := by simpa using hat
  rw [← hc, g1, decide_eq_true ⟨hi, hmem⟩]
  exact hK
theorem look_miss (hg : o.guard = none) (m x : Operand) (hop : o.op = Op.lookup 53 m x true) {bm : Nat} {W : List (List Int)} (hmap : ∃ D : DataW Unit, w.ownsMap Try.prog 103 (plainElem Try.prog 3) bm W.length D ∧ MapIs D W)
    (hm : a.eval m = .map (some bm)) (i : Nat) (b : Int) (hx : a.eval x = .agg #[.int .i64 i, .int .u8 b]) (hi : i < W.length) (hl : W.length < 4294967296) (h0 : 0 ≤ b) (h1 : b ≤ 255) (xw : List Int) (hxw : W.getD i [] ++ [b] = xw) (hmem : xw ∉ W)
    (hK : wpList Try.prog ops Q rest (a.put o.dst (.tuple #[.int .i64 0, .bool false])) w) : wpList Try.prog ops Q (o :: rest) a w := by
  subst hxw
  obtain ⟨D, hown, hM⟩ := hmap
  obtain ⟨g1, _⟩ := hM i b (by omega) h0 h1
  refine wpList_lookup_own_ok_int w hg m x _ hop 103 3 .i64 klaw Try.underlying53 Try.underlying3 (zeroI _) bm _ D hm hown _ _ hx (keyOf_edge (wf_nat (by omega)) (wf_u8 h0 h1)) ?_
  intro c hat _
  have hno : Maps.has D (kd i b) = false := by rw [g1, decide_eq_false_iff_not]; exact fun h => hmem h.2
  rw [atKey_of_not_has hno] at hat
  have hc : (0 : Int) = c := by simpa using hat
  rw [← hc, hno]
  exact hK
/-- a new word is written -/
theorem upd_edge (hg : o.guard = none) (m x v : Operand) (hop : o.op = Op.mapUpdate 53 m x v) {bm : Nat} {W : List (List Int)} (hmap : ∃ D : DataW Unit, w.ownsMap Try.prog 103 (plainElem Try.prog 3) bm W.length D ∧ MapIs D W) (hn : W.Nodup) (hc : Closed W)
    (hm : a.eval m = .map (some bm)) (i : Nat) (b : Int) (hx : a.eval x = .agg #[.int .i64 i, .int .u8 b]) (hv : a.eval v = .int .i64 (W.length : Nat)) (hi : i < W.length) (hl : W.length < 4294967296) (h0 : 0 ≤ b) (h1 : b ≤ 255) (xw : List Int) (hxw : W.getD i [] ++ [b] = xw) (hmem : xw ∉ W)
    (hK : ∀ w' D', w'.ownsMap Try.prog 103 (plainElem (H := Unit) Try.prog 3) bm (W.length + 1) D' → w.grownBy w' (some bm) → MapIs D' (W ++ [xw]) → wpList Try.prog ops Q rest (a.put o.dst undef) w') : wpList Try.prog ops Q (o :: rest) a w := by
  subst hxw
  obtain ⟨D, hown, hM⟩ := hmap
  refine wpList_mapUpdate_own w hg m x v _ hop 103 3 klaw Try.underlying53 _ bm _ D hm hown (by unfold maxLen; omega) _ _ _ hx hv (keyOf_edge (wf_nat (by omega)) (wf_u8 h0 h1)) _ [] (plainElem_int Try.underlying3 (wf_nat hl)) ?_
  intro w' ho hgr
  exact hK w' _ ho hgr (hM.put hown.isMap hn hc hl hi h0 h1 hmem)
end

end Go.Proofs.Ytflgmodofemifaa

/- the store: known, at, find. -/
namespace Go.Proofs.Ytflgmodofemifaa
open Go.RowKit Go.Maps
set_option linter.unusedVariables false
set_option linter.unusedSimpArgs false

theorem en_info : (Try.prog.info? 74).map (·.size) = some 13 := by kernel_rfl
theorem ru_info : (Try.prog.info? 67).map (·.size) = some 5 := by kernel_rfl
/-- no entry -/
def enZ : List Value := [.int .i64 0, .int .u8 0, .int .i64 0, .int .i64 0, .int .i64 0, .int .i64 0, .int .i64 0, .int .i64 0, .int .i64 0, .int .u64 0, .int .u64 0, .int .i64 0, .bool false]
theorem enC_one (e : En) : ((enC e).toArray).all (·.oneCell') = true := by simp [enC, ruC, weCs, Value.oneCell']

/-- an entry of the row -/
theorem row_range {w : World} {B g c : Nat} {L : List En} (h : Row w B 74 13 (.slice (some ⟨g, 0, none⟩) L.length c) L.length (enCs L)) {i : Nat} {e : En} (hi : L[i]? = some e) : w.rangeAt g (i * 13) (enC e) := fun j v hv => by
  obtain ⟨b, off, ha, hc⟩ := h.rdG.cell (i * 13 + j) v (enCs_get L i j e v hi hv)
  cases ha
  rwa [Nat.zero_add] at hc
theorem row_addr {w : World} {B : Nat} {a c} {L : List En} (h : Row w B 74 13 (.slice a L.length c) L.length (enCs L)) (h0 : 0 < L.length) : ∃ g, a = some ⟨g, 0, none⟩ := by
  rcases h.2 with ⟨hv, hn⟩ | ⟨g, cap, cur, hv, _⟩
  · omega
  · cases hv; exact ⟨g, rfl⟩

theorem SI.below {B w w' bs most L} (h : SI B w bs most L) (hb : Below w.heap.size w w') : SI B w' bs most L := by
  obtain ⟨⟨a, c, bm, h1, h2, ⟨D, h3, h4⟩, h5, h6, h7, h8⟩, hB, hg, hr⟩ := h
  exact ⟨⟨a, c, bm, h1.below hb, h2.below hb, ⟨D, ownsMap_fr h3 (S := fun _ => False) (.of_below hb) (fun h => h), h4⟩, h5, h6, h7, Nat.lt_of_lt_of_le h8 hb.size⟩, hB, hg, hr⟩

set_option maxRecDepth 100000 in
theorem known_any {B bs most : Nat} {L : List En} {w : World} (h : SI B w bs most L) (id : Nat) (hid : id ≤ L.length) : Calls Try.prog 19 #[.pointer (some ⟨bs, 0, none⟩), .int .i64 (id : Nat)] w fun e w' => e = .returned (.bool true) ∧ w' = w := by
  obtain ⟨⟨a, c, bm, h1, -⟩, -, -, hr⟩ := h
  have c1 := h1.cell (j := 1) rfl
  obtain ⟨n, hn⟩ : ∃ n, n = L.length := ⟨_, rfl⟩
  rw [← hn] at c1 hid
  have hd : decide (id ≤ n) = true := by rw [decide_eq_true_iff]; exact hid
  clear hr h1 hid hn
  go_enter Try.func19, Try.ntmps19
  go_wp2
  go_ret
  exact ⟨ret_eq (by simp [hd]), rfl⟩

set_option maxRecDepth 100000 in
set_option maxHeartbeats 1000000 in
theorem at_any {B bs most : Nat} {L : List En} {w : World} (h : SI B w bs most L) (i : Nat) (e : En) (hi : L[i]? = some e) : Calls Try.prog 20 #[.pointer (some ⟨bs, 0, none⟩), .int .i64 ((i + 1 : Nat) : Int)] w fun r w' => r = .returned (.agg (enC e).toArray) ∧ Below w.heap.size w w' := by
  obtain ⟨w1, hw1⟩ : ∃ w1, w1 = w.alloc (.cells enZ.toArray 74) := ⟨_, rfl⟩
  have HB := Lib.hid (show Below w.heap.size w w1 by rw [hw1]; exact below_alloc _ _)
  have HZ := Lib.hid (show BX w1 w.heap.size enZ by rw [hw1]; exact BX.alloc _ _ _)
  have h9 := h.below HB.out
  obtain ⟨⟨a, c, bm, h1, h2, -⟩, -, -, hr⟩ := h9
  have hil := (List.getElem?_eq_some_iff.1 hi).1
  obtain ⟨g, rfl⟩ := row_addr h2 (by omega)
  have hrg := row_range h2 hi
  have c1 := h1.cell (j := 1) rfl
  obtain ⟨n, hn⟩ : ∃ n, n = L.length := ⟨_, rfl⟩
  rw [← hn] at c1 hil
  obtain ⟨k, hk⟩ : ∃ k, k = i + 1 := ⟨_, rfl⟩
  rw [← hk]
  have hsub : (k : Int) - 1 = (i : Int) := by omega
  have hin : (i : Int) < (n : Int) := by omega
  have hin2 : i < n := hil
  have hk0 : ((k : Int) == 0) = false := by rw [beq_eq_false_iff_ne]; omega
  have hkb : k ≤ 1048576 := by have := hr.1; have := hr.2; omega
  have hwk : IntKind.i64.wrap (i : Int) = (i : Int) := IntWalk.i64_in _ (by omega)
  have HRG := Lib.hid hrg
  have HTH := Lib.hid (HZ.out.there 0 13 (by simp [enZ]))
  have HW1 := Lib.hid hw1
  unfold enZ at HW1
  clear hr h1 h2 hn hk hrg hw1 hkb
  go_enter Try.func20, Try.ntmps20
  go_upto_region 1 with fail
  rw [← HW1.out]
  have hrg := HRG.out
  go_wp2_with (first | (refine wpList_load_mid rfl 74 _ rfl g (i * 13) rfl _ _ hrg Try.underlying74 rfl en_info ?_; clear hrg) | (refine wpList_store_mid rfl 74 _ _ rfl w.heap.size 0 (enC e).toArray rfl rfl HTH.out en_info (enC_one e) ?_))
  have hx8 := HZ.out.putAll (enC e) rfl
  have hb9 := belowSetCells HB.out (Nat.le_refl _) 0 (enC e) HB.out.size
  refine bodyPost_ret (res_cell rfl _ _ w.heap.size _ _ rfl hx8.rng Try.underlying74 rfl en_info) rfl ?_
  exact ⟨rfl, hb9⟩

theorem zeroID (w : World) : (zeroValue 39).run Try.prog w = .ok (.int .i64 0) w := by kernel_rfl

/-- the map of the store looked up -/
theorem SI.look {B bs most : Nat} {L : List En} {w : World} (h : SI B w bs most L) {bm : Nat} (hm : (∃ D : DataW Unit, w.ownsMap Try.prog 67 (plainElem Try.prog 39) bm L.length D ∧ MapR D L)) (r : Ru) (hr : RuWf r) :
    (∀ (i : Nat) (e : En), L[i]? = some e → e.ru = r → (Instr.lookup 61 (.map (some bm)) (ruV r) true).run Try.prog w = .ok (.tuple #[.int .i64 ((i + 1 : Nat) : Int), .bool true]) w) ∧
    (r ∉ L.map (·.ru) → (Instr.lookup 61 (.map (some bm)) (ruV r) true).run Try.prog w = .ok (.tuple #[.int .i64 0, .bool false]) w) := by
  obtain ⟨D, h3, h4⟩ := hm
  obtain ⟨v, ps, hrun, hv⟩ := h3.look_ok ruLaw Try.underlying61 (zeroID w) (zd := .lit (.int .i64 0)) (zp := []) (plainElem_int Try.underlying39 (by decide)) (ruK_of hr)
  obtain ⟨c, rfl, hc, hwc⟩ := plainElem_int_inv Try.underlying39 hv
  have hc := congrArg Prod.fst hc
  refine ⟨fun i e hi he => ?_, fun hn => ?_⟩
  · subst he
    obtain ⟨g1, g2⟩ := h4.hit i e hi
    rw [g2] at hc
    have e1 : ((i + 1 : Nat) : Int) = c := by simpa using hc
    rw [hrun, g1, e1]
  · have g1 := h4.miss r hr hn
    rw [atKey_of_not_has g1] at hc
    have e1 : (0 : Int) = c := by simpa using hc
    rw [hrun, g1, ← e1]

theorem SI.drew {B w bs most L} (h : SI B w bs most L) : SI B w.drew bs most L := h.below ((Below.refl _ _).drew)

set_option maxRecDepth 100000 in
set_option maxHeartbeats 1000000 in
theorem find_any {B bs most : Nat} {L : List En} {w : World} (h : SI B w bs most L) (r : Ru) (hr : RuWf r) (id : Nat) (hid : (∃ e, 0 < id ∧ L[id - 1]? = some e ∧ e.ru = r) ∨ (id = 0 ∧ r ∉ L.map (·.ru) ∧ L.length < most)) :
    Calls Try.prog 22 #[.pointer (some ⟨bs, 0, none⟩), ruV r] w fun e w' => e = .returned (.tuple #[.int .i64 (id : Nat), .nilIface]) ∧ Below w.heap.size w w' := by
  obtain ⟨w1, hw1⟩ : ∃ w1, w1 = w.alloc (.cells (ruC r).toArray 67) := ⟨_, rfl⟩
  have HB := Lib.hid (show Below w.heap.size w w1 by rw [hw1]; exact below_alloc _ _)
  have hx : BX w1 w.heap.size (ruC r) := by rw [hw1]; exact BX.alloc _ _ _
  have h1 := h.below HB.out
  have HW1 := Lib.hid hw1
  obtain ⟨a, c, bm, hbx, -, hmap, -⟩ := h1.st
  have hlk := h1.drew.look (bm := bm) (by obtain ⟨D, g1, g2⟩ := hmap; exact ⟨D, g1.drew, g2⟩) r hr
  have s0 := hbx.cell (j := 0) rfl
  have s1 := hbx.cell (j := 1) rfl
  have s2 := hbx.cell (j := 2) rfl
  have x0 := hx.cell (j := 0) rfl
  have x1 := hx.cell (j := 1) rfl
  have x2 := hx.cell (j := 2) rfl
  have x3 := hx.cell (j := 3) rfl
  have x4 := hx.cell (j := 4) rfl
  unfold ruC at HW1
  unfold ruV at hlk ⊢
  obtain ⟨n, hn⟩ : ∃ n, n = L.length := ⟨_, rfl⟩
  rw [← hn] at s1 hid
  rcases hid with ⟨e, h0, hi, he⟩ | ⟨rfl, hno, hro⟩
  · have hl := hlk.1 _ e hi he
    rw [show id - 1 + 1 = id by omega] at hl
    clear hlk hi he hn hmap hbx h1 hw1 hx h
    go_enter Try.func22, Try.ntmps22
    go_upto_region 1 with fail
    rw [← HW1.out]
    go_region_held3 (fun wx => wx.cell? ⟨bs, 2, none⟩ = some (.map (some bm)) ∧ wx.cell? ⟨w.heap.size, 0, none⟩ = some (.int .i64 (r.kind : Nat)) ∧ wx.cell? ⟨w.heap.size, 1, none⟩ = some (.int .u8 (r.letter : Nat)) ∧ wx.cell? ⟨w.heap.size, 2, none⟩ = some (.int .i64 (r.left : Nat)) ∧ wx.cell? ⟨w.heap.size, 3, none⟩ = some (.int .i64 (r.right : Nat)) ∧ wx.cell? ⟨w.heap.size, 4, none⟩ = some (.int .i64 (r.times : Nat))) (first | exact ⟨s2, x0, x1, x2, x3, x4⟩) (fail)
    go_wp2
    go_ret2
    exact ⟨rfl, HB.out.drew⟩
  · have hl := hlk.2 hno
    have hd : decide (most ≤ n) = false := by rw [decide_eq_false_iff_not]; omega
    clear hlk hno hn hmap hbx h1 hw1 hx h hro
    go_enter Try.func22, Try.ntmps22
    go_upto_region 1 with fail
    rw [← HW1.out]
    go_region_held3 (fun wx => wx.cell? ⟨bs, 2, none⟩ = some (.map (some bm)) ∧ wx.cell? ⟨w.heap.size, 0, none⟩ = some (.int .i64 (r.kind : Nat)) ∧ wx.cell? ⟨w.heap.size, 1, none⟩ = some (.int .u8 (r.letter : Nat)) ∧ wx.cell? ⟨w.heap.size, 2, none⟩ = some (.int .i64 (r.left : Nat)) ∧ wx.cell? ⟨w.heap.size, 3, none⟩ = some (.int .i64 (r.right : Nat)) ∧ wx.cell? ⟨w.heap.size, 4, none⟩ = some (.int .i64 (r.times : Nat))) (first | exact ⟨s2, x0, x1, x2, x3, x4⟩) (fail)
    go_wp2
    go_region_held3 (fun wx => wx.cell? ⟨bs, 0, none⟩ = some (.int .i64 (most : Nat)) ∧ wx.cell? ⟨bs, 1, none⟩ = some (.slice a n c)) (first | exact ⟨s0, s1⟩) (fail)
    go_wp2
    go_ret2
    exact ⟨rfl, HB.out.drew.drew⟩

end Go.Proofs.Ytflgmodofemifaa

/- the store: add. -/
namespace Go.Proofs.Ytflgmodofemifaa
open Go.RowKit Go.Maps
set_option linter.unusedVariables false
set_option linter.unusedSimpArgs false

theorem EEN : EltG Try.prog 62 74 (.agg enZ.toArray) 13 104 := ⟨Try.underlying62, info_parts (by kernel_rfl), rfl, by decide⟩

theorem enCs_snoc (L : List En) (e : En) : enCs (L ++ [e]) = enCs L ++ enC e := by simp [enCs]

theorem SI.wfs {B w bs most L} (h : SI B w bs most L) : ∀ x ∈ L, RuWf x.ru := fun x hx => by
  obtain ⟨i, hi⟩ := List.mem_iff_getElem?.1 hx
  have := (List.getElem?_eq_some_iff.1 hi).1
  exact ruOk_wf (h.good.ru i x hi) (by have := h.room.1; have := h.room.2; omega)

/-- behind the list's append -/
theorem add_mid {B bs most n c bm bx : Nat} {a : Option Addr} {L : List En} {e : En} {w1 w4 : World} {D : DataW Unit} (hbx : BX w1 bs [.int .i64 (most : Nat), .slice a n c, .map (some bm)]) (hmap : w1.ownsMap Try.prog 67 (plainElem Try.prog 39) bm n D)
    (hnb : some bs ≠ (Value.slice a n c).ownBlock ∧ some bm ≠ (Value.slice a n c).ownBlock) (hx : BX w1 bx (enC e)) (hxb : some bx ≠ (Value.slice a n c).ownBlock) (hmb : bm ≠ bs) (hxs : bx ≠ bs) (hml : bm < w1.heap.size) {a4 : Option Addr} {c4 : Nat}
    (hr4 : Row w4 B 74 13 (.slice a4 (n + 1) c4) (n + 1) (enCs L ++ enC e)) {t : TypeId} (hg4 : (w1.alloc (.cells (enC e).toArray t)).drew.grownBy w4 (Value.slice a n c).ownBlock)
    (hat4 : (Value.slice a4 (n + 1) c4).ownBlock = (Value.slice a n c).ownBlock ∨ (Value.slice a4 (n + 1) c4).ownBlock = some (w1.alloc (.cells (enC e).toArray t)).drew.heap.size) :
    BX (w4.setCell ⟨bs, 1, none⟩ (.slice a4 (n + 1) c4)) bs [.int .i64 (most : Nat), .slice a4 (n + 1) c4, .map (some bm)] ∧ Row (w4.setCell ⟨bs, 1, none⟩ (.slice a4 (n + 1) c4)) B 74 13 (.slice a4 (n + 1) c4) (n + 1) (enCs L ++ enC e) ∧
    (w4.setCell ⟨bs, 1, none⟩ (.slice a4 (n + 1) c4)).ownsMap Try.prog 67 (plainElem Try.prog 39) bm n D ∧ BX (w4.setCell ⟨bs, 1, none⟩ (.slice a4 (n + 1) c4)) bx (enC e) ∧
    (∀ g, a4 = some ⟨g, 0, none⟩ → g ≠ bs ∧ g ≠ bm) ∧ Fr (fun b => some b = (Value.slice a n c).ownBlock ∨ b = bs) w1 (w4.setCell ⟨bs, 1, none⟩ (.slice a4 (n + 1) c4)) := by
  have f1 : Fr (fun b => some b = (Value.slice a n c).ownBlock) w1 w4 := (((Fr.refl _ w1).alloc _).drew).trans (Fr.of_grown hg4 (fun k hk => hk.symm))
  have hfs : Fr (fun b => b = bs) w4 (w4.setCell ⟨bs, 1, none⟩ (.slice a4 (n + 1) c4)) := Fr.setCell (S := fun i => i = bs) (Fr.refl _ w4) (p := ⟨bs, 1, none⟩) rfl _
  have hb4 := hbx.fr f1 hnb.1
  have hsz : w1.heap.size < (w1.alloc (.cells (enC e).toArray t)).drew.heap.size := by simp
  have hnew : ∀ g, a4 = some ⟨g, 0, none⟩ → g ≠ bs ∧ g ≠ bm := by
    intro g hg
    subst hg
    rcases hat4 with h | h
    · exact ⟨fun e2 => hnb.1 (by rw [← h, ← e2]; rfl), fun e2 => hnb.2 (by rw [← h, ← e2]; rfl)⟩
    · have hgs : g = (w1.alloc (.cells (enC e).toArray t)).drew.heap.size := by simpa [Value.ownBlock] using h
      have := hbx.lt
      omega
  refine ⟨hb4.set1 (j := 1) (by simp) _, Row.fr hr4 hfs (fun g hg e2 => ?_), ?_, (hx.fr f1 hxb).fr hfs hxs, hnew, ?_⟩
  · subst e2
    rcases hat4 with h | h
    · exact hnb.1 (by rw [← h, hg])
    · have hgs := Option.some.inj (hg.symm.trans h)
      have := hbx.lt
      omega
  · exact ownsMap_fr (ownsMap_fr hmap f1 hnb.2) hfs hmb
  · exact (f1.mono (fun i hi => .inl hi)).trans (hfs.mono (fun i hi => .inr hi))

/-- a block of bytes -/
def U8B (w : World) (b : Nat) : Prop := ∃ cs fr, w.heap[b]? = some (.cells cs 5 fr) ∧ ∀ v ∈ cs.toList, ∃ x, v = Value.int .u8 x
/-- blocks of bytes stay -/
def Kp (w w' : World) : Prop := ∀ b, U8B w b → w'.heap[b]? = w.heap[b]?
theorem Kp.of_below {w w' : World} (h : Below w.heap.size w w') : Kp w w' := fun b hb => by
  obtain ⟨cs, fr, he, _⟩ := hb
  exact h.block b (Array.getElem?_eq_some_iff.1 he).1
theorem Kp.trans {a b c : World} (h : Kp a b) (k : Kp b c) : Kp a c := fun i hi => by
  have h1 := h i hi
  obtain ⟨cs, fr, he, hc⟩ := hi
  rw [k i ⟨cs, fr, by rw [h1]; exact he, hc⟩, h1]
theorem Kp.refl (w : World) : Kp w w := fun _ _ => rfl
/-- what the store's calls leave -/
def BK (B : Nat) (w w' : World) : Prop := Below B w w' ∧ Kp w w'
theorem BK.of_below {B : Nat} {w w' : World} (h : Below w.heap.size w w') (hB : B ≤ w.heap.size) : BK B w w' := ⟨h.mono hB, Kp.of_below h⟩
theorem BK.trans {B : Nat} {a b c : World} (h : BK B a b) (k : BK B b c) : BK B a c := ⟨h.1.trans k.1, h.2.trans k.2⟩

set_option maxRecDepth 100000 in
set_option maxHeartbeats 4000000 in
theorem add_any' {B bs most : Nat} {L : List En} {w : World} (h : SI B w bs most L) (e : En) (hro : L.length < most) (hg : Good (L ++ [e])) (hn : e.ru ∉ L.map (·.ru)) (hB : B ≤ w.heap.size) :
    Calls Try.prog 24 #[.pointer (some ⟨bs, 0, none⟩), .agg (enC e).toArray] w fun r w' => r = .returned (.int .i64 ((L.length + 1 : Nat) : Int)) ∧ SI B w' bs most (L ++ [e]) ∧ BK B w w' := by
  obtain ⟨w1, hw1⟩ : ∃ w1, w1 = w.alloc (.cells (enC e).toArray 74) := ⟨_, rfl⟩
  have HB := Lib.hid (show Below w.heap.size w w1 by rw [hw1]; exact below_alloc _ _)
  have HX := Lib.hid (show BX w1 w.heap.size (enC e) by rw [hw1]; exact BX.alloc _ _ _)
  have h1 := h.below HB.out
  have HSI := Lib.hid h1
  have HW1 := Lib.hid hw1
  have HG := Lib.hid hg
  have HWFE : Hid (RuWf e.ru) := Lib.hid (ruOk_wf (hg.ru L.length e (by simp)) (by have := h.room.1; have := h.room.2; omega))
  have HWFS := Lib.hid h.wfs
  have HNO := Lib.hid hn
  have HBB := Lib.hid hB
  have HRO := Lib.hid (And.intro hro h.room.2)
  obtain ⟨a, c, bm, hbx0, hrow0, ⟨D, hmap0, hD⟩, hne, hmb, hBm, hml⟩ := h.st
  have HXB : Hid (some w.heap.size ≠ (Value.slice a L.length c).ownBlock ∧ w.heap.size ≠ bs) := Lib.hid ⟨fun e2 => by have := (Row.block_lt hrow0 e2.symm).1; omega, fun e2 => by have := hbx0.lt; omega⟩
  have HOB : Hid (∀ b, some b = (Value.slice a L.length c).ownBlock → B ≤ b) := Lib.hid (fun b hb => (Row.block_lt hrow0 hb.symm).2)
  have hbx := hbx0.below HB.out
  have hrow := Row.below hrow0 HB.out
  have hmap := ownsMap_fr hmap0 (S := fun _ => False) (.of_below HB.out) (fun h => h)
  have HD := Lib.hid hD
  have HMD := Lib.hid hmap0.isMap
  have HML0 := Lib.hid hml
  replace hml : bm < w1.heap.size := Nat.lt_of_lt_of_le hml HB.out.size
  have HBX := Lib.hid hbx
  have HROW := Lib.hid hrow
  have HMAP := Lib.hid hmap
  have HNE := Lib.hid hne
  have HNB : Hid (some bs ≠ (Value.slice a L.length c).ownBlock ∧ some bm ≠ (Value.slice a L.length c).ownBlock) := Lib.hid (by
    rcases hrow.2 with ⟨hv, _⟩ | ⟨g, cap, cur, hv, _⟩
    · obtain ⟨ha, -, -⟩ := Value.slice.inj hv
      subst ha; exact ⟨by simp [Value.ownBlock], by simp [Value.ownBlock]⟩
    · obtain ⟨ha, -, -⟩ := Value.slice.inj hv
      subst ha
      have := hne g rfl
      exact ⟨by simp [Value.ownBlock]; omega, by simp [Value.ownBlock]; omega⟩)
  have HMB := Lib.hid (And.intro hmb (And.intro hBm hml))
  have HbB := Lib.hid h.bB
  have s1 := hbx.cell (j := 1) rfl
  have sf1 := hbx.fz 1
  have x0 := HX.out.cell (j := 0) rfl
  have x1 := HX.out.cell (j := 1) rfl
  have x2 := HX.out.cell (j := 2) rfl
  have x3 := HX.out.cell (j := 3) rfl
  have x4 := HX.out.cell (j := 4) rfl
  have x5 := HX.out.cell (j := 5) rfl
  have x6 := HX.out.cell (j := 6) rfl
  have x7 := HX.out.cell (j := 7) rfl
  have x8 := HX.out.cell (j := 8) rfl
  have x9 := HX.out.cell (j := 9) rfl
  have x10 := HX.out.cell (j := 10) rfl
  have x11 := HX.out.cell (j := 11) rfl
  have x12 := HX.out.cell (j := 12) rfl
  have hEC : enC e = [.int .i64 (e.ru.kind : Nat), .int .u8 (e.ru.letter : Nat), .int .i64 (e.ru.left : Nat), .int .i64 (e.ru.right : Nat), .int .i64 (e.ru.times : Nat), .int .i64 (e.we.len : Nat), .int .i64 (e.we.lines : Nat), .int .i64 (e.we.head : Nat), .int .i64 (e.we.tail : Nat), .int .u64 (e.we.dv : Nat), .int .u64 (e.we.ds : Nat), .int .i64 (e.depth : Nat), .bool e.even] := rfl
  have HEC := Lib.hid hEC
  rw [hEC] at HW1 ⊢
  obtain ⟨n, hn'⟩ : ∃ n, n = L.length := ⟨_, rfl⟩
  have HN := Lib.hid hn'
  rw [← hn'] at s1 HROW HNB HBX HMAP HXB HOB ⊢
  have s1a : ∀ o, (w1.alloc o).cell? ⟨bs, 1, none⟩ = some (.slice a n c) := fun o => below_cell (below_alloc _ _) s1
  clear h h1 hbx hrow hmap hbx0 hrow0 hmap0 hD HSI hne hmb hBm hml hw1 hg hn hB hro hn' hEC
  go_enter Try.func24, Try.ntmps24
  go_upto_region 1 with fail
  rw [← HW1.out]
  go_region_law (refine step_app_row_at (.tmp 10) (.tmp 12) EEN rfl rfl B (.slice a n c) n _ rfl (Row.alloc HROW.out _).drew _ 1 _ (enC e) rfl (by rw [HEC.out]; exact (RdG.lits _ 13 74 1 _ rfl).drew) (by rw [HEC.out]; simp [Value.oneCell']) (by have := HRO.out; have := HN.out; omega) (by decide) (by have := HBB.out; have := HB.out.size; simp; omega) ?_; intro a4 c4 w4 hr4 hg4 hat4; have gg4 := hg4.cell (show (w1.alloc (.cells (enC e).toArray 74)).drew.cell? ⟨bs, 1, none⟩ = _ from s1a _) HNB.out.1; have hf4 : w4.frozen? ⟨bs, 1, none⟩ = false := (World.frozen?_of_block (w := (w1.alloc (.cells (enC e).toArray 74)).drew) (hg4.block bs (by have := HBX.out.lt; simp; omega) HNB.out.1)).trans (((below_alloc w1 _).frozen (p := ⟨bs, 1, none⟩) HBX.out.lt).trans sf1))
  all_goals
    obtain ⟨m1, m2, m3, m4, m5, m6⟩ := add_mid HBX.out HMAP.out HNB.out HX.out HXB.out.1 HMB.out.1 HXB.out.2 HMB.out.2.2 hr4 hg4 hat4
    obtain ⟨w5, hw5⟩ : ∃ w5, w5 = w4.setCell ⟨bs, 1, none⟩ (.slice a4 (n + 1) c4) := ⟨_, rfl⟩
    rw [← hw5] at m1 m2 m3 m4 m6 ⊢
    clear hw5 gg4 hf4 hr4 hg4 hat4 s1 s1a sf1 x0 x1 x2 x3 x4 x5 x6 x7 x8 x9 x10 x11 x12
    have M1 := Lib.hid m1
    have M2 := Lib.hid m2
    have M5 := Lib.hid m5
    have M6 := Lib.hid m6
    have x0 := m4.cell (j := 0) rfl
    have x1 := m4.cell (j := 1) rfl
    have x2 := m4.cell (j := 2) rfl
    have x3 := m4.cell (j := 3) rfl
    have x4 := m4.cell (j := 4) rfl
    have s1 := m1.cell (j := 1) rfl
    have s2 := m1.cell (j := 2) rfl
    have M4 := Lib.hid m4
    obtain ⟨w6, hrun, hown6, hg6⟩ := (World.ownsMap.drew m3).update (d := .lit (.int .i64 ((L.length + 1 : Nat) : Int))) (ps := []) (val := .int .i64 ((L.length + 1 : Nat) : Int)) ruLaw Try.underlying61 (by have := HRO.out; have := HN.out; unfold maxLen; omega) (ruK_of HWFE.out) (plainElem_int Try.underlying39 (wfI (by have := HRO.out; omega)))
    obtain ⟨k, hk⟩ : ∃ k, k = n + 1 := ⟨_, rfl⟩
    have HK := Lib.hid hk
    have hnk : (n : Int) + 1 = (k : Int) := by omega
    rw [← HN.out, ← hk] at hrun
    rw [← hk] at s1
    unfold ruV at hrun
    have HO6 := Lib.hid hown6
    have HG6 := Lib.hid hg6
    have z0 := hg6.cell (show w5.drew.cell? ⟨w.heap.size, 0, none⟩ = _ from x0) (fun e2 => by have h1 := HML0.out; have h2 : w.heap.size = bm := Option.some.inj e2; omega)
    have z1 := hg6.cell (show w5.drew.cell? ⟨w.heap.size, 1, none⟩ = _ from x1) (fun e2 => by have h1 := HML0.out; have h2 : w.heap.size = bm := Option.some.inj e2; omega)
    have z2 := hg6.cell (show w5.drew.cell? ⟨w.heap.size, 2, none⟩ = _ from x2) (fun e2 => by have h1 := HML0.out; have h2 : w.heap.size = bm := Option.some.inj e2; omega)
    have z3 := hg6.cell (show w5.drew.cell? ⟨w.heap.size, 3, none⟩ = _ from x3) (fun e2 => by have h1 := HML0.out; have h2 : w.heap.size = bm := Option.some.inj e2; omega)
    have z4 := hg6.cell (show w5.drew.cell? ⟨w.heap.size, 4, none⟩ = _ from x4) (fun e2 => by have h1 := HML0.out; have h2 : w.heap.size = bm := Option.some.inj e2; omega)
    have zs2 := hg6.cell (show w5.drew.cell? ⟨bs, 2, none⟩ = _ from s2) (fun e2 => HMB.out.1 (Option.some.inj e2).symm)
    clear hown6 hg6 m1 m2 m3 m4 m5 m6 hk
    go_upto_region 3 with fail
    go_region_held3 (fun wx => wx.cell? ⟨bs, 2, none⟩ = some (.map (some bm)) ∧ wx.cell? ⟨w.heap.size, 0, none⟩ = some (.int .i64 (e.ru.kind : Nat)) ∧ wx.cell? ⟨w.heap.size, 1, none⟩ = some (.int .u8 (e.ru.letter : Nat)) ∧ wx.cell? ⟨w.heap.size, 2, none⟩ = some (.int .i64 (e.ru.left : Nat)) ∧ wx.cell? ⟨w.heap.size, 3, none⟩ = some (.int .i64 (e.ru.right : Nat)) ∧ wx.cell? ⟨w.heap.size, 4, none⟩ = some (.int .i64 (e.ru.times : Nat))) (first | exact ⟨s2, x0, x1, x2, x3, x4⟩ | exact ⟨zs2, z0, z1, z2, z3, z4⟩) (fail)
    go_wp2
    go_ret
    have f56 : Fr (fun b => b = bm) w5 w6 := ((Fr.refl (fun b => b = bm) w5).drew).trans (Fr.of_grown (S := fun b => b = bm) HG6.out (fun k hk => (Option.some.inj hk).symm))
    have hf : Fr (fun b => (some b = (Value.slice a n c).ownBlock ∨ b = bs) ∨ b = bm) w1 w6 := (M6.out.mono (fun i hi => .inl hi)).trans (f56.mono (fun i hi => .inr hi))
    refine ⟨ret_eq (by rw [← HK.out]; rfl), ⟨⟨a4, c4, bm, ?_, ?_, ⟨_, ?_, HD.out.put HMD.out HWFS.out HWFE.out HNO.out⟩, M5.out, HMB.out.1, HMB.out.2.1, Nat.lt_of_lt_of_le HMB.out.2.2 hf.size⟩, HbB.out, HG.out, by have := HRO.out; simp; omega⟩, ?_⟩
    · have h := M1.out.fr f56 (fun e2 => HMB.out.1 e2.symm)
      rw [List.length_append, List.length_singleton, ← HN.out]
      exact h
    · have h := Row.fr M2.out f56 (fun g hg e2 => by
        obtain ⟨a', c', hv⟩ := Row.form M2.out
        rcases M2.out.2 with ⟨hv, h0⟩ | ⟨g', cap, cur, hv, _⟩
        · omega
        · obtain ⟨ha, -, -⟩ := Value.slice.inj hv
          subst ha
          have h3 := (M5.out g' rfl).2
          have h4 : g' = g := by simpa [Value.ownBlock] using hg
          omega)
      rw [List.length_append, List.length_singleton, ← HN.out, enCs_snoc]
      exact h
    · have h := HO6.out
      rw [List.length_append, List.length_singleton, ← HN.out]
      rw [← HN.out] at h
      exact h
    · refine ⟨(HB.out.mono HBB.out).trans (hf.below ?_ (by have := HB.out.size; have := HBB.out; omega)), (Kp.of_below HB.out).trans (fun i hi => ?_)⟩
      · rintro i ((h | rfl) | rfl)
        · exact HOB.out i h
        · exact HbB.out
        · exact HMB.out.2.1
      · obtain ⟨cs, fr, he, hc⟩ := hi
        refine hf.block i (Array.getElem?_eq_some_iff.1 he).1 ?_
        rintro ((h | rfl) | rfl)
        · rcases HROW.out.2 with ⟨hv, h0⟩ | ⟨g', cap, cur, hv, _, hg, _⟩
          · rw [hv] at h; cases h
          · rw [hv] at h
            have h4 : i = g' := by simpa [Value.ownBlock] using h
            rw [h4, hg] at he
            have h5 := (Obj.cells.inj (Option.some.inj he)).2.1
            exact absurd h5 (by decide)
        · have h4 := HBX.out.cell (j := 1) rfl
          simp only [World.cell?, he] at h4
          have h5 : (.slice a n c : Value) ∈ cs.toList := by
            have := Array.mem_of_getElem? h4
            exact Array.mem_toList_iff.2 this
          obtain ⟨x, hx⟩ := hc _ h5
          cases hx
        · obtain ⟨es, ck, he2, _⟩ := HMAP.out
          rw [he] at he2; cases he2

end Go.Proofs.Ytflgmodofemifaa
