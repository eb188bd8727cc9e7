/-
  Joined texts: GENERIC SMALL LAWS, over any program: integer slices that can be read ('Rd'), integer slices of the call's own ('Own'), append to those. · errors as values; a world behind some draws. · DERIVED: THE SHELF's CONTRACTS AT THIS DUMP, IN PLAIN WORDS (tools/lay-plain.mjs out of 'TryShelf.lean', which tools/lay-shelf.mjs wrote): THE SAME DECLARATIONS UNDER THE SAME NAMES: 'import', 'namespace', 'open', 'def', 'theorem' AND NOTHING ELSE: no command of the shelf's: FOR A HAND-IN. Each laying: the table of numbers ('.._ren') and one theorem, a field a fact of the dump's own or the kernel's comparison; each contract: ONE APPLICATION. · arithmetic modulo P = 2^61 - 1: Reduce, Add, Mul, Pow.
-/
import Derived.Test.YtflgmodofemifaaRows
import Derived.WalkKit
import Derived.ProofKit
import Derived.OpenShut
import Derived.WalkSpells
import Derived.WalkLawsBesides
import Derived.Lib.Hide
import Derived.SizedLaws
import Derived.ChangeSlices
import Derived.Deep.QuietTactic
import Derived.BigQuiet
import Derived.Shelf.Bits.Mul64
import Derived.Ground.Names2Prog
import Derived.Shelf.Slices.Clone
import Derived.Ground.SlgnProg
import Derived.Shelf.SlicesE.Clone
import Derived.Test.YtflgmodofemifaaProg
import Derived.Laws.Bits64b
import Derived.Deep.LoopGhost
import Derived.Deep.Cut
import Derived.Deep.CutRange
import Derived.Deep.DeepCutAuto
import Derived.Deep.RegionLaw
import Derived.Deep.RegionHeld3

/- GENERIC SMALL LAWS, over any program: integer slices that can be read ('Rd'), integer slices of the call's own ('Own'), append to those. -/
namespace Go.Proofs.Ytflgmodofemifaa
open Go.RowKit
set_option linter.unusedVariables false
set_option linter.unusedSimpArgs false

/-- the n elements of a slice value with address a read as the numbers l -/
structure Rd (w : World) (k : IntKind) (a : Option Addr) (n : Nat) (l : List Int) : Prop where
  len : l.length = n
  max : n ≤ 9223372036854775807
  cell : ∀ i, i < n → ∃ b off, a = some ⟨b, off, none⟩ ∧ w.cell? ⟨b, off + i, none⟩ = some (.int k (l.getD i 0))
  wf : ∀ x ∈ l, (Lit.int k x).wf = true

theorem Rd.below {w w' : World} {k a n l} (h : Rd w k a n l) (hb : Below w.heap.size w w') : Rd w' k a n l :=
  ⟨h.len, h.max, fun i hi => by
    obtain ⟨b, off, ha, hc⟩ := h.cell i hi
    exact ⟨b, off, ha, (hb.cell (World.block_lt_of_cell? w _ hc)).trans hc⟩, h.wf⟩

theorem Rd.lt {w : World} {k a n l} (h : Rd w k a n l) : ∀ x, a = some x → 0 < n → x.block < w.heap.size := by
  intro x hx hn
  obtain ⟨b, off, ha, hc⟩ := h.cell 0 hn
  rw [hx] at ha; cases ha
  exact World.block_lt_of_cell? w _ hc

/-- a slice of the call's own, from block 'base' on -/
def Own (w : World) (base : Nat) (e : TypeId) (k : IntKind) (v : Value) (l : List Int) : Prop :=
  w.ownsRow base e 1 v l.length (l.map (Value.int k))

theorem Own.drew {w : World} {base e k v l} (h : Own w base e k v l) : Own w.drew base e k v l := h
theorem Own.alloc {w : World} {base e k v l} (h : Own w base e k v l) (o : Obj) : Own (w.alloc o) base e k v l := World.ownsRow.alloc h o
theorem Own.kept {w w' : World} {base e k v l row} (h : Own w base e k v l) (hg : w.grownBy w' row) (hne : v.ownBlock = none ∨ v.ownBlock ≠ row) : Own w' base e k v l := World.ownsRow.kept h hg hne

theorem Own.below {w w' : World} {base e k v l} (h : Own w base e k v l) (hb : Below w.heap.size w w') : Own w' base e k v l := by
  refine ⟨h.1, ?_⟩
  rcases h.2 with hn | ⟨g, cap, cur, rfl, hbb, hgg, rest⟩
  · exact .inl hn
  · exact .inr ⟨g, cap, cur, rfl, hbb, by rw [hb.block g (Array.getElem?_eq_some_iff.1 hgg).1]; exact hgg, rest⟩

theorem Own.mono {w : World} {base base' e k v l} (h : Own w base e k v l) (hb : base' ≤ base) : Own w base' e k v l := by
  refine ⟨h.1, ?_⟩
  rcases h.2 with hn | ⟨g, cap, cur, rfl, hbb, r⟩
  · exact .inl hn
  · exact .inr ⟨g, cap, cur, rfl, by omega, r⟩

theorem Own.rd {w : World} {base e k a n c l} (h : Own w base e k (.slice a n c) l) (hwf : ∀ x ∈ l, (Lit.int k x).wf = true) : Rd w k a n l := by
  have hw := h
  obtain ⟨h1, h2⟩ := h
  rcases h2 with ⟨hv, hn⟩ | ⟨g, cap, cur, hv, hb, hgg, hnc, hcm, hcs, htake⟩
  · cases hv
    have hl : l = [] := List.eq_nil_of_length_eq_zero hn
    subst hl
    exact ⟨rfl, by omega, fun i hi => by omega, hwf⟩
  · cases hv
    refine ⟨rfl, by unfold maxLen at hcm; omega, fun i hi => ⟨g, 0, rfl, ?_⟩, hwf⟩
    have := World.ownsRow.cellAt hw i (by simpa using hi)
    rw [Nat.zero_add, this]
    simp [List.getD, hi]

theorem Own.form {w : World} {base e k v l} (h : Own w base e k v l) : ∃ a c, v = .slice a l.length c := by
  rcases h.2 with ⟨rfl, h0⟩ | ⟨g, cap, cur, rfl, _⟩
  · exact ⟨none, 0, by rw [h0]⟩
  · exact ⟨_, _, rfl⟩

/-- the facts on an integer slice's type and its element's -/
structure Elt (P : Program) (t e : TypeId) (k : IntKind) (bytes : Nat) : Prop where
  ht : P.underlying t = some (.slice e)
  hi : ∃ i, P.info? e = some i ∧ i.zero = some (.int k 0) ∧ i.size = 1 ∧ i.bytes = bytes

theorem Rd.news {w : World} {k a n l} (h : Rd w k (some a) n l) : ∀ j u, (l.map (Value.int k))[j]? = some u → w.cell? (a.add j) = some u := by
  intro j u hu
  simp only [List.getElem?_map, Option.map_eq_some_iff] at hu
  obtain ⟨x, hx, rfl⟩ := hu
  have hj : j < l.length := (List.getElem?_eq_some_iff.1 hx).1
  obtain ⟨b, off, ha, hc⟩ := h.cell j (by rw [← h.len]; exact hj)
  cases ha
  rw [Addr.add_lit, hc]
  simp [List.getD, hx]

theorem grown_below {w w' : World} {v : Value} {base e k l} (ho : Own w base e k v l) (hg : w.grownBy w' v.ownBlock) (hb : base ≤ w.heap.size) : Below base w w' :=
  (Below.refl _ _).grown hg hb (fun x hx => (ho.lt x hx).1)

/-- append of a readable slice to one of the call's own -/
theorem app_rd {P : Program} {w : World} {ops : Array Oper} {rest : List Oper} {o : Oper} {a : Act} {Q : Exit → Act → World → Prop} (s x : Operand) {t e : TypeId} {k : IntKind} {bytes : Nat} (E : Elt P t e k bytes)
    (hgd : o.guard = none) (ho : o.op = .call { callee := .builtin .append, args := #[s, x], argTypes := #[t, t] })
    (base : Nat) (v : Value) (l : List Int) (hs : a.eval s = v) (hown : Own w base e k v l) (ad : Option Addr) (m c : Nat) (l2 : List Int) (hx : a.eval x = .slice ad m c) (hr : Rd w k ad m l2)
    (hlen : (l.length + l2.length) * bytes ≤ 140737488355328) (hpos : 0 < bytes) (hbase : base ≤ w.heap.size)
    (h : ∀ a' c' w', Own w' base e k (.slice a' (l ++ l2).length c') (l ++ l2) → w.grownBy w' v.ownBlock → wpList P ops Q rest (a.put o.dst (.slice a' (l ++ l2).length c')) w') : wpList P ops Q (o :: rest) a w := by
  obtain ⟨i, hi, hz, hsz, hby⟩ := E.hi
  have hm : m = l2.length := hr.len.symm
  have hb2 : (l.length + l2.length) ≤ 140737488355328 := Nat.le_trans (Nat.le_mul_of_pos_right _ hpos) hlen
  cases ad with
  | some ad =>
    refine wpList_append_own w hgd s x t ho base e i (.int k 0) 1 bytes E.ht hi hz hsz hby rfl (by decide) v l.length (l.map (Value.int k)) hs hown ad m c (l2.map (Value.int k)) hx (by simp [hm]) hr.news (ints_oneCell k l2)
      (by unfold maxLen; omega) (by rw [hm]; exact hlen) hbase ?_
    intro v' w' ho' hg' _
    have ho2 : Own w' base e k v' (l ++ l2) := by
      unfold Own
      rw [List.map_append, List.length_append, ← hm]; exact ho'
    obtain ⟨a', c', rfl⟩ := ho2.form
    exact h a' c' w' ho2 hg'
  | none =>
    have h0 : m = 0 := by
      rcases Nat.eq_zero_or_pos m with h0 | h0
      · exact h0
      · obtain ⟨b, off, ha, _⟩ := hr.cell 0 h0; cases ha
    subst h0
    have hl2 : l2 = [] := List.eq_nil_of_length_eq_zero hm.symm
    subst hl2
    refine wpList_plain hgd fun K hK' => ?_
    have hrun : (Builtin.append_ #[t, t] o.type #[v, .slice none 0 c]).run P w = .ok v w := by
      rcases hown.2 with ⟨rfl, h0⟩ | ⟨g, cap, cur, rfl, _, _, hnc, _⟩
      · simp [Builtin.append_, run_underlying E.ht, sizeOf, typeInfo, hi, Builtin.lenOf, Builtin.firstCells]
      · simp [Builtin.append_, run_underlying E.ht, sizeOf, typeInfo, hi, Builtin.lenOf, Builtin.firstCells, hnc, storeCells]
    unfold Oper.wp
    simp [execOp, ho, resolve, invoke, builtin, hs, hx, hrun, Result.andThen]
    obtain ⟨a', c', rfl⟩ := hown.form
    refine hK' _ _ ?_
    have := h a' c' w (by simpa using hown) (World.grownBy.refl _ _)
    simpa using this

/-- one new cell, as append's second argument has it -/
theorem Rd.one (w : World) (k : IntKind) (e : TypeId) (x : Int) (hx : (Lit.int k x).wf = true) : Rd (w.alloc (.cells #[.int k x] e)) k (some ⟨w.heap.size, 0, none⟩) 1 [x] :=
  ⟨rfl, by omega, fun i hi => ⟨_, _, rfl, by
    obtain rfl : i = 0 := by omega
    rw [Nat.zero_add, World.cell?_alloc_new]; rfl⟩, by simpa using hx⟩

/-- a new block of listed numbers -/
theorem Rd.lits (w : World) (k : IntKind) (e : TypeId) (l : List Int) (hm : l.length ≤ 9223372036854775807) (hx : ∀ x ∈ l, (Lit.int k x).wf = true) : Rd (w.alloc (.cells (l.map (Value.int k)).toArray e)) k (some ⟨w.heap.size, 0, none⟩) l.length l :=
  ⟨rfl, hm, fun i hi => ⟨_, _, rfl, by rw [Nat.zero_add, World.cell?_alloc_new]; simp [hi]⟩, hx⟩

theorem Own.lits (w : World) (k : IntKind) (e : TypeId) (l : List Int) (base : Nat) (hb : base ≤ w.heap.size) (hm : l.length ≤ 9223372036854775807) : Own (w.alloc (.cells (l.map (Value.int k)).toArray e)) base e k (.slice (some ⟨w.heap.size, 0, none⟩) l.length l.length) l := by
  have := World.ownsRow_lit (e := e) (base := base) (size := 1) w (l.map (Value.int k)).toArray l.length hb (by unfold maxLen; omega) (by simp)
  simpa [Own] using this

theorem Own.nil (w : World) (base : Nat) (e : TypeId) (k : IntKind) : Own w base e k (.slice none 0 0) [] := World.ownsRow_nil w base e 1

theorem below_alloc (w : World) (o : Obj) : Below w.heap.size w (w.alloc o) := (Below.refl _ _).alloc (Nat.le_refl _) o

theorem below_cell {W w1 : World} (hb : Below W.heap.size W w1) {a : Addr} {v : Value} (h : W.cell? a = some v) : w1.cell? a = some v := (hb.cell (World.block_lt_of_cell? W _ h)).trans h

theorem bthen {a b c : World} (h : Below a.heap.size a b) (k : Below b.heap.size b c) : Below a.heap.size a c := h.trans (k.mono h.size)

theorem bd_u8 {x : Int} (h : (Lit.int .u8 x).wf = true) : 0 ≤ x ∧ x ≤ 255 := by simpa [Lit.wf, IntKind.min, IntKind.max, IntKind.signed, IntKind.bits] using h
theorem bd_u64 {x : Int} (h : (Lit.int .u64 x).wf = true) : 0 ≤ x ∧ x ≤ 18446744073709551615 := by simpa [Lit.wf, IntKind.min, IntKind.max, IntKind.signed, IntKind.bits] using h
theorem bd_i64 {x : Int} (h : (Lit.int .i64 x).wf = true) : -9223372036854775808 ≤ x ∧ x ≤ 9223372036854775807 := by simpa [Lit.wf, IntKind.min, IntKind.max, IntKind.signed, IntKind.bits] using h

theorem run_str {P : Program} (w : World) {k a n l} (c : Nat) (h : Rd w k a n l) (hk : k = .u8) (src dst e : TypeId) (hs : P.underlying src = some (.slice e)) (he : P.underlying e = some (.int .u8)) (hd : P.underlying dst = some .string) :
    (convert src dst (.slice a n c)).run P w = .ok (.string (strOfNums l)) w := by
  subst hk
  rcases Nat.eq_zero_or_pos n with h0 | h0
  · have hl : l = [] := List.eq_nil_of_length_eq_zero (by rw [h.len]; exact h0)
    subst hl; subst h0
    cases a with
    | none => rw [run_convert_bytes_nil w src e hs he _ _ dst hd]; rfl
    | some a =>
      rw [run_convert_bytes_string w src dst e _ 0 c hs he hd, run_bytesToString w a 0 c [] (by simp [loadCells, loadCellsFrom])]
      rfl
  · obtain ⟨b, off, rfl, _⟩ := h.cell 0 h0
    exact run_convert_bytes_arg w src e hs he b off n c l h.len (fun i hi => by
      obtain ⟨b', off', hb, hc⟩ := h.cell i hi
      cases hb; exact hc) dst hd

theorem slice_reach {α : Type} {n sp by_ : Nat} {elems : List α} (h : (elems.length + sp) * by_ ≤ reachBytes) (hl : elems.length = n) : n * by_ ≤ 140737488351232 := by
  subst hl
  have h2 : elems.length * by_ ≤ (elems.length + sp) * by_ := Nat.mul_le_mul_right _ (by omega)
  have h3 : reachBytes = 140737488351232 := by decide
  omega

theorem str_reach {α : Type} {s : List α} {n : Nat} (h : s.length ≤ reachBytes) (hn : s.length = n := by rfl) : n ≤ 140737488351232 := by
  have h3 : reachBytes = 140737488351232 := by decide
  omega

theorem open_rd {H : Type} {enc : TypeId × Value → H} {P : Program} {W : World} {t e : TypeId} {k : IntKind} {a : Option Addr} {n c : Nat} {d : DataW H} {p : List MemPlace}
    (ht : P.underlying t = some (.slice e)) (he : P.underlying e = some (.int k)) (hc : P.cellsOf e = 1)
    (h : DataW.Trod enc P W 0 (fun _ => true) true t (.slice a n c) d p) : ∃ l, Rd W k a n l ∧ n ≤ c ∧ ((d = .nil ∧ n = 0) ∨ ∃ elems spare, d = .slice elems spare ∧ elems.length = n) := by
  obtain ⟨fuel, hf⟩ := h
  rcases Go.ChangeShapes.open_ints ht he hc hf with ⟨hcs, hx⟩ | ⟨x, l, c', zs, hcs, _, hl, hm, hz, hx, hcell, hwz⟩
  · simp [Value.cells] at hcs
    obtain ⟨rfl, rfl, rfl⟩ := hcs
    refine ⟨[], ⟨rfl, by omega, fun i hi => by omega, by simp⟩, by omega, .inl ⟨by simpa using congrArg Prod.fst hx, rfl⟩⟩
  · simp [Value.cells] at hcs
    obtain ⟨rfl, rfl, rfl⟩ := hcs
    have hz' : zs.length = c := by simpa using hz
    refine ⟨zs.take n, ⟨by rw [List.length_take]; omega, by unfold maxLen at hm; omega, fun i hi => ?_, fun y hy => hwz y (List.mem_of_mem_take hy)⟩, hl, .inr ⟨_, _, congrArg Prod.fst hx, by simp [Go.ChangeShapes.lits]; omega⟩⟩
    have h1 := hcell i (by omega)
    have hspot := World.cell?_spot (hcell 0 (by omega))
    obtain ⟨b, off, spot⟩ := x
    have : spot = none := by simpa [Addr.add] using hspot
    subst this
    refine ⟨b, off, rfl, ?_⟩
    rw [Addr.add_lit] at h1
    rw [h1]
    simp [List.getD, hi]

/-- make([]T, 0, n) with a size that is a number -/
theorem make_own {P : Program} {w : World} {ops : Array Oper} {rest : List Oper} {o : Oper} {a : Act} {Q : Exit → Act → World → Prop} {t e : TypeId} {k : IntKind} {bytes : Nat} (E : Elt P t e k bytes)
    (hgd : o.guard = none) (s x : Operand) (ho : o.op = Op.makeSlice t s x) (base : Nat) (kl kc : IntKind) (C : Int) (n : Nat) (hs : a.eval s = .int kl 0) (hx : a.eval x = .int kc C) (hC : C = (n : Int))
    (hb : n * bytes ≤ 281474976710656) (hn : n ≤ 9223372036854775807) (hbase : base ≤ w.heap.size)
    (h : ∀ w', Own w' base e k (.slice (some ⟨w.heap.size, 0, none⟩) 0 n) [] → w.grownBy w' none → wpList P ops Q rest (a.put o.dst (.slice (some ⟨w.heap.size, 0, none⟩) 0 n)) w') : wpList P ops Q (o :: rest) a w := by
  obtain ⟨i, hi, hz, hsz, hby⟩ := E.hi
  exact wpList_make_own w hgd s x t ho base e i (.int k 0) 1 E.ht hi hz hsz kl kc C n hs hx hC (by rw [hby, Nat.mul_comm]; exact hb) (by unfold maxLen; omega) hbase h

/-- make([]T, n) -/
theorem make_full {P : Program} {w : World} {ops : Array Oper} {rest : List Oper} {o : Oper} {a : Act} {Q : Exit → Act → World → Prop} {t e : TypeId} {k : IntKind} {bytes : Nat} (E : Elt P t e k bytes)
    (hgd : o.guard = none) (s x : Operand) (ho : o.op = Op.makeSlice t s x) (base : Nat) (kl kc : IntKind) (L C : Int) (n : Nat) (hs : a.eval s = .int kl L) (hx : a.eval x = .int kc C) (hL : L = (n : Int)) (hC : C = (n : Int))
    (hb : n * bytes ≤ 281474976710656) (hn : n ≤ 9223372036854775807) (hbase : base ≤ w.heap.size)
    (h : ∀ w', Own w' base e k (.slice (some ⟨w.heap.size, 0, none⟩) n n) (List.replicate n 0) → w.grownBy w' none → wpList P ops Q rest (a.put o.dst (.slice (some ⟨w.heap.size, 0, none⟩) n n)) w') : wpList P ops Q (o :: rest) a w := by
  obtain ⟨i, hi, hz, hsz, hby⟩ := E.hi
  refine wpList_make_full w hgd s x t ho base e i (.int k 0) 1 E.ht hi hz hsz kl kc L C n hs hx hL hC (by rw [hby, Nat.mul_comm]; exact hb) (by unfold maxLen; omega) hbase fun w' h1 h2 => h w' ?_ h2
  have e1 : (madeCells (Value.int k 0).cells (n * 1)).toList = (List.replicate n (0 : Int)).map (Value.int k) := by
    rw [Nat.mul_one, show (Value.int k 0).cells = #[.int k 0] from rfl, toList_madeCells_one, List.map_replicate]
  unfold Own
  rw [← e1, List.length_replicate]
  exact h1

theorem grown_below' {w w' : World} {base : Nat} (hg : w.grownBy w' none) (hb : base ≤ w.heap.size) : Below base w w' :=
  (Below.refl _ _).grown hg hb (fun x hx => by cases hx)

theorem Elt.elem {P : Program} {t e : TypeId} {k : IntKind} {bytes : Nat} (E : Elt P t e k bytes) : P.elem t = e := by
  have := E.ht
  unfold Program.elem
  rw [this]

theorem Elt.sz {P : Program} {t e : TypeId} {k : IntKind} {bytes : Nat} (E : Elt P t e k bytes) (w : World) : (sizeOf e).run P w = .ok 1 w := by
  obtain ⟨i, hi, _, hs, _⟩ := E.hi
  simp [sizeOf, typeInfo, hi, hs]

theorem Rd.drop_ {w : World} {k a n l} (h : Rd w k a n l) {c u : Nat} (hu : u ≤ n) (hnc : n ≤ c) : Rd w k (if c = u then a else a.map (·.add (u * 1))) (n - u) (l.drop u) := by
  refine ⟨by rw [List.length_drop, h.len], by have := h.max; omega, fun i hi => ?_, fun x hx => h.wf x (List.mem_of_mem_drop hx)⟩
  obtain ⟨b, off, rfl, hc⟩ := h.cell (u + i) (by omega)
  rw [if_neg (by omega)]
  refine ⟨b, off + u, by simp [Addr.add_lit], ?_⟩
  rw [Nat.add_assoc, hc]
  simp [List.getD]

theorem Rd.take_ {w : World} {k a n l} (h : Rd w k a n l) {u : Nat} (hu : u ≤ n) : Rd w k a u (l.take u) := by
  refine ⟨by rw [List.length_take, h.len]; omega, by have := h.max; omega, fun i hi => ?_, fun x hx => h.wf x (List.mem_of_mem_take hx)⟩
  obtain ⟨b, off, rfl, hc⟩ := h.cell i (by omega)
  refine ⟨b, off, rfl, ?_⟩
  rw [hc]
  simp [List.getD, hi]

/-- s[u:] -/
theorem Rd.cutL {P : Program} {t e : TypeId} {w0 : World} {k a n l} {bytes : Nat} (E : Elt P t e k bytes) (h : Rd w0 k a n l) {c u : Nat} (hu : u ≤ n) (hnc : n ≤ c) :
    ∃ a', Rd w0 k a' (n - u) (l.drop u) ∧ ∀ (kl : IntKind) (w : World), (Instr.slice t (.slice a n c) (some (.int kl (u : Int))) none none).run P w = .ok (.slice a' (n - u) (c - u)) w := by
  refine ⟨_, h.drop_ hu hnc, fun kl w => ?_⟩
  rw [run_slice_l (P := P) w t a n c (by rw [E.elem]; exact E.ht) kl u (by omega) (by omega), E.elem, E.sz]
  simp [sliced, Result.andThen]

/-- s[u:v] -/
theorem Rd.cutLH {P : Program} {t e : TypeId} {w0 : World} {k a n l} {bytes : Nat} (E : Elt P t e k bytes) (h : Rd w0 k a n l) {c u v : Nat} (hu : u ≤ v) (hv : v ≤ n) (hnc : n ≤ c) :
    ∃ a', Rd w0 k a' (v - u) ((l.take v).drop u) ∧ ∀ (kl kh : IntKind) (w : World), (Instr.slice t (.slice a n c) (some (.int kl (u : Int))) (some (.int kh (v : Int))) none).run P w = .ok (.slice a' (v - u) (c - u)) w := by
  refine ⟨_, (h.take_ hv).drop_ (c := c) hu (by omega), fun kl kh w => ?_⟩
  rw [run_slice_lh (P := P) w t a n c (by rw [E.elem]; exact E.ht) kl kh u v (by omega) (by omega) (by omega), E.elem, E.sz]
  simp [sliced, Result.andThen]

theorem Own.cap {w : World} {base e k a n c l} (h : Own w base e k (.slice a n c) l) : n ≤ c := by
  rcases h.2 with ⟨hv, hn⟩ | ⟨g, cap, cur, hv, _, _, hnc, _⟩
  · cases hv; omega
  · cases hv; exact hnc

/-- s[:v] -/
theorem Rd.cutH {P : Program} {t e : TypeId} {w0 : World} {k a n l} {bytes : Nat} (E : Elt P t e k bytes) (h : Rd w0 k a n l) {c v : Nat} (hv : v ≤ n) (hnc : n ≤ c) :
    ∃ a', Rd w0 k a' v (l.take v) ∧ ∀ (kh : IntKind) (w : World), (Instr.slice t (.slice a n c) none (some (.int kh (v : Int))) none).run P w = .ok (.slice a' v c) w := by
  have h0 := (h.take_ hv).drop_ (c := c) (Nat.zero_le _) (by omega)
  rw [List.drop_zero, Nat.sub_zero] at h0
  refine ⟨_, h0, fun kh w => ?_⟩
  rw [run_slice_h (P := P) w t a n c (by rw [E.elem]; exact E.ht) kh v (by omega) (by omega), E.elem, E.sz]
  simp [sliced, Result.andThen]

theorem ret_eq {a b : Value} (h : a = b) : Ending.returned a = .returned b := by rw [h]

theorem drop_cons_d {α : Type} {l : List α} {d : α} {k : Nat} (h : k < l.length) : l.drop k = l.getD k d :: l.drop (k + 1) := by
  rw [List.drop_eq_getElem_cons h]; simp [List.getD, h]
theorem drop_cons {l : List Int} {k : Nat} (h : k < l.length) : l.drop k = l.getD k 0 :: l.drop (k + 1) := drop_cons_d h
theorem getD_take_snoc {α : Type} {l : List α} {d : α} {i : Nat} (h : i < l.length) : l.take (i + 1) = l.take i ++ [l.getD i d] := by
  rw [List.take_succ_eq_append_getElem h]; simp [List.getD, h]
theorem getD_mem {α : Type} {l : List α} {d : α} {i : Nat} (h : i < l.length) : l.getD i d ∈ l := by simp [List.getD, h]

end Go.Proofs.Ytflgmodofemifaa

/- errors as values; a world behind some draws. -/
namespace Go.Proofs.Ytflgmodofemifaa
open Go.RowKit
set_option linter.unusedVariables false
set_option linter.unusedSimpArgs false

/-- an error code as an error; 0: nil -/
def errV (k : Int) : Value := if k = 0 then .nilIface else .iface 51 (.int .i64 k)

theorem getD_ne {l l2 : List Int} (h : l.length = l2.length) (hne : l ≠ l2) : ∃ i, i < l.length ∧ l.getD i 0 ≠ l2.getD i 0 := by
  refine Classical.byContradiction fun hc => hne (List.ext_getElem h fun i h1 h2 => ?_)
  have := Classical.not_not.1 fun hh => hc ⟨i, h1, hh⟩
  simpa [List.getD, h1, h2] using this

theorem bdrewN {B : Nat} {a w : World} (h : Below B a w) (n : Nat) : Below B a (w.drewN n) := ⟨h.os, h.tape, h.output, h.size, h.block⟩

end Go.Proofs.Ytflgmodofemifaa

/- DERIVED: THE SHELF's CONTRACTS AT THIS DUMP, IN PLAIN WORDS (tools/lay-plain.mjs out of 'TryShelf.lean', which tools/lay-shelf.mjs wrote): THE SAME DECLARATIONS UNDER THE SAME NAMES: 'import', 'namespace', 'open', 'def', 'theorem' AND NOTHING ELSE: no command of the shelf's: FOR A HAND-IN. Each laying: the table of numbers ('.._ren') and one theorem, a field a fact of the dump's own or the kernel's comparison; each contract: ONE APPLICATION. -/
namespace Go.Proofs
open Go.Shelf
def Try.lays264_ren : Go.Shelf.Ren := ⟨fun | 264 => 71 | n => n, fun | 53 => 68 | 46 => 131 | n => n, fun | n => n⟩
theorem Try.lays264 : Go.Proofs.Lays.n264 Try.prog Try.lays264_ren := {
  mixed := by kernel_rfl
  f264 := Try.func71.trans (congrArg some (by kernel_rfl))
  t46 := Try.underlying131
  a46 := Try.isAgg131
  z46 := Try.sizeOf131
  v46 := Try.zeroValue131
  t53 := Try.underlying68
  a53 := Try.isAgg68
  z53 := Try.sizeOf68
  v53 := Try.zeroValue68 }
open Go.RowKit Go.Lib in
theorem Try.bits_Mul64 (x y : Nat) (hx : x < 18446744073709551616) (hy : y < 18446744073709551616) (w : World) :
    Calls Try.prog 71 #[.int .u64 x, .int .u64 y] w fun e w' => e = .returned (.tuple #[.int .u64 ((x * y / 18446744073709551616 : Nat) : Int), .int .u64 ((x * y % 18446744073709551616 : Nat) : Int)]) ∧ w' = w := Any.bits_Mul64 Try.lays264 x y hx hy w
def Try.laysNm215_ren : Go.Shelf.Ren := ⟨fun | 15 => 29 | n => n, fun | 22 => 28 | 3 => 3 | 4 => 4 | n => n, fun | n => n⟩
theorem Try.laysNm215 : Go.Proofs.Lays2.n15 Try.prog Try.laysNm215_ren := {
  mixed := by kernel_rfl
  f15 := Try.func29.trans (congrArg some (by kernel_rfl))
  t3 := Try.underlying3
  a3 := Try.isAgg3
  z3 := Try.sizeOf3
  v3 := Try.zeroValue3
  t4 := Try.underlying4
  a4 := Try.isAgg4
  z4 := Try.sizeOf4
  v4 := Try.zeroValue4
  t22 := Try.underlying28
  a22 := Try.isAgg28
  z22 := Try.sizeOf28
  v22 := Try.zeroValue28
  i3 := by kernel_rfl }
open Go.RowKit Go.Lib in
/-- slices.Clone at []int: "Clone returns a copy of the slice. The elements are copied using assignment, so this is a shallow clone. The result may have additional unused capacity. The result preserves the nilness of s.": OF A SLICE THAT IS NOT nil IT RETURNS A SLICE THAT IS NOT nil, OF THE SAME ELEMENTS, IN MEMORY OF THE CALL's OWN: in the how-to's words (6f): 'w'.ownsRow B e 1 v' n cells': v' begins at the head of a row among the blocks from B on (B: the heap's size at the call), not frozen, whose first cells are the elements · 'Below B w w'': below B all is as it was. The capacity is whatever the run-time gives. 'zs': what the cells behind the slice's address hold; 'zs.take n': its elements. (LAID: no walk: one application.) -/
theorem Try.slices_Clone_int (b off n c : Nat) (zs : List Int) (w : World) (hz : n ≤ zs.length) (hbig : n * 8 ≤ 140737488355328) (hc : ∀ j, j < zs.length → w.cell? ⟨b, off + j, none⟩ = some (.int .i64 (zs.getD j 0))) :
    Calls Try.prog 29 #[.slice (some ⟨b, off, none⟩) n c] w fun e w' => ∃ v', e = .returned v' ∧ w'.ownsRow w.heap.size 3 1 v' n ((zs.take n).map (Value.int .i64)) ∧ v' ≠ .slice none 0 0 ∧ Below w.heap.size w w' := Any.slices_Clone_int Try.laysNm215 b off n c zs w hz hbig hc
open Go.RowKit Go.Lib in
/-- The same at nil: nil comes back; the world is as it was. (LAID: no walk: one application.) -/
theorem Try.slices_Clone_int_nil (n c : Nat) (w : World) :
    Calls Try.prog 29 #[.slice none n c] w fun e w' => e = .returned (.slice none 0 0) ∧ w' = w := Any.slices_Clone_int_nil Try.laysNm215 n c w
open Go.RowKit Go.Lib in
/-- The same at a slice of length 0 that is not nil, WHATEVER ITS ADDRESS (no cell is asked for): a slice that is not nil and owns nothing comes back. (LAID: no walk: one application.) -/
theorem Try.slices_Clone_int_zero (a : Addr) (c : Nat) (w : World) :
    Calls Try.prog 29 #[.slice (some a) 0 c] w fun e w' => ∃ v', e = .returned v' ∧ w'.ownsRow w.heap.size 3 1 v' 0 [] ∧ v' ≠ .slice none 0 0 ∧ Below w.heap.size w w' := Any.slices_Clone_int_zero Try.laysNm215 a c w
def Try.laysSlE041_f29_ren : Go.Shelf.Ren := ⟨fun | 41 => 29 | n => n, fun | 22 => 28 | 23 => 3 | 4 => 4 | n => n, fun | n => n⟩
theorem Try.laysSlE041_f29 : Go.Proofs.SlLaysE0.n41 Try.prog Try.laysSlE041_f29_ren := {
  mixed := by kernel_rfl
  f41 := ⟨Try.f29.name, by decide, Try.func29.trans (congrArg some (by kernel_rfl))⟩
  t4 := Try.underlying4
  a4 := Try.isAgg4
  z4 := Try.sizeOf4
  v4 := Try.zeroValue4
  t22 := Try.underlying28
  a22 := Try.isAgg28
  z22 := Try.sizeOf28
  v22 := Try.zeroValue28 }
open Go.RowKit Go.Lib in
/-- slices.Clone: "Clone returns a copy of the slice. The elements are copied using assignment, so this is a shallow clone. The result may have additional unused capacity. The result preserves the nilness of s.": OF A SLICE THAT IS NOT nil IT RETURNS A SLICE THAT IS NOT nil, OF THE SAME CELLS, IN MEMORY OF THE CALL's OWN ('ownsRow': the how-to's 6f); below the heap's size at the call all is as it was. (LAID AT THE INSTANCE 'slices.Clone[[]int,int]': no walk: one application.) -/
theorem Try.slices_Clone_f29 (i0 : TypeInfo) (z : Value) (size bytes : Nat) (hi : Try.prog.info? 3 = some i0) (hz0 : i0.zero = some z) (hz1 : i0.size = size) (hz2 : i0.bytes = bytes) (hzs : z.cells.size = size) (hsz : 0 < size) (z23 : ∀ w, (Go.sizeOf 3).run Try.prog w = .ok size w) (b off n c : Nat) (news : List Value) (w : World) (hl : news.length = n * size) (hn : n ≤ maxLen) (hbig : n * bytes ≤ 140737488355328) (hc : ∀ j u, news[j]? = some u → w.cell? ⟨b, off + j, none⟩ = some u) (h1 : ∀ u ∈ news, u.oneCell' = true) :
    Calls Try.prog 29 #[.slice (some ⟨b, off, none⟩) n c] w fun e w' => ∃ v', e = .returned v' ∧ w'.ownsRow w.heap.size 3 size v' n news ∧ v' ≠ .slice none 0 0 ∧ Below w.heap.size w w' := AnyE.slices_Clone Try.laysSlE041_f29 i0 z size bytes hi hz0 hz1 hz2 hzs hsz z23 b off n c news w hl hn hbig hc h1
def Try.laysSlE041_f44_ren : Go.Shelf.Ren := ⟨fun | 41 => 44 | n => n, fun | 22 => 30 | 23 => 4 | 4 => 4 | n => n, fun | n => n⟩
theorem Try.laysSlE041_f44 : Go.Proofs.SlLaysE0.n41 Try.prog Try.laysSlE041_f44_ren := {
  mixed := by kernel_rfl
  f41 := ⟨Try.f44.name, by decide, Try.func44.trans (congrArg some (by kernel_rfl))⟩
  t4 := Try.underlying4
  a4 := Try.isAgg4
  z4 := Try.sizeOf4
  v4 := Try.zeroValue4
  t22 := Try.underlying30
  a22 := Try.isAgg30
  z22 := Try.sizeOf30
  v22 := Try.zeroValue30 }
open Go.RowKit Go.Lib in
/-- slices.Clone: "Clone returns a copy of the slice. The elements are copied using assignment, so this is a shallow clone. The result may have additional unused capacity. The result preserves the nilness of s.": OF A SLICE THAT IS NOT nil IT RETURNS A SLICE THAT IS NOT nil, OF THE SAME CELLS, IN MEMORY OF THE CALL's OWN ('ownsRow': the how-to's 6f); below the heap's size at the call all is as it was. (LAID AT THE INSTANCE 'slices.Clone[[]bool,bool]': no walk: one application.) -/
theorem Try.slices_Clone_f44 (i0 : TypeInfo) (z : Value) (size bytes : Nat) (hi : Try.prog.info? 4 = some i0) (hz0 : i0.zero = some z) (hz1 : i0.size = size) (hz2 : i0.bytes = bytes) (hzs : z.cells.size = size) (hsz : 0 < size) (z23 : ∀ w, (Go.sizeOf 4).run Try.prog w = .ok size w) (b off n c : Nat) (news : List Value) (w : World) (hl : news.length = n * size) (hn : n ≤ maxLen) (hbig : n * bytes ≤ 140737488355328) (hc : ∀ j u, news[j]? = some u → w.cell? ⟨b, off + j, none⟩ = some u) (h1 : ∀ u ∈ news, u.oneCell' = true) :
    Calls Try.prog 44 #[.slice (some ⟨b, off, none⟩) n c] w fun e w' => ∃ v', e = .returned v' ∧ w'.ownsRow w.heap.size 4 size v' n news ∧ v' ≠ .slice none 0 0 ∧ Below w.heap.size w w' := AnyE.slices_Clone Try.laysSlE041_f44 i0 z size bytes hi hz0 hz1 hz2 hzs hsz z23 b off n c news w hl hn hbig hc h1
open Go.RowKit Go.Lib in
/-- The same at nil: nil comes back; the world is as it was; nothing is asked of the element's type. (LAID AT THE INSTANCE 'slices.Clone[[]int,int]': no walk: one application.) -/
theorem Try.slices_Clone_nil_f29 (n c : Nat) (w : World) :
    Calls Try.prog 29 #[.slice none n c] w fun e w' => e = .returned (.slice none 0 0) ∧ w' = w := AnyE.slices_Clone_nil Try.laysSlE041_f29 n c w
open Go.RowKit Go.Lib in
/-- The same at nil: nil comes back; the world is as it was; nothing is asked of the element's type. (LAID AT THE INSTANCE 'slices.Clone[[]bool,bool]': no walk: one application.) -/
theorem Try.slices_Clone_nil_f44 (n c : Nat) (w : World) :
    Calls Try.prog 44 #[.slice none n c] w fun e w' => e = .returned (.slice none 0 0) ∧ w' = w := AnyE.slices_Clone_nil Try.laysSlE041_f44 n c w
end Go.Proofs

/- arithmetic modulo P = 2^61 - 1: Reduce, Add, Mul, Pow. -/
namespace Go.Proofs.Ytflgmodofemifaa
open Go.RowKit
set_option linter.unusedVariables false
set_option linter.unusedSimpArgs false

/-- the modulus -/
def PP : Nat := 2305843009213693951
theorem PP_val : PP = 2305843009213693951 := rfl
theorem lt_PP {r x : Nat} (h : r = x % PP) : r < 2305843009213693951 := by rw [h]; exact Nat.mod_lt _ (by decide)
theorem and_mask61 {x : Nat} (hx : x < 18446744073709551616) : bits BinOp.and IntKind.u64 (x : Int) 2305843009213693951 = ((x % 2305843009213693952 : Nat) : Int) := by
  have h := bits_and_u64_nat x 2305843009213693951 hx (by decide)
  rw [show (2305843009213693951 : Nat) = 2 ^ 61 - 1 from rfl, Nat.and_two_pow_sub_one_eq_mod] at h
  exact h
/-- one step of the reduction -/
theorem red_lt {x : Nat} (hx : x < 18446744073709551616) : x % 2305843009213693952 + x / 2305843009213693952 < 2305843009213693951 + 8 ∧ (x % 2305843009213693952 + x / 2305843009213693952) % 2305843009213693951 = x % 2305843009213693951 := by
  refine ⟨by omega, ?_⟩
  have h1 := Nat.div_add_mod x 2305843009213693952
  have h2 : x = (x % 2305843009213693952 + x / 2305843009213693952) + 2305843009213693951 * (x / 2305843009213693952) := by omega
  conv => rhs; rw [h2]
  rw [Nat.add_mul_mod_self_left]

set_option maxRecDepth 100000 in
theorem reduce_any (x : Nat) (hx : x < 18446744073709551616) (w : World) : Calls Try.prog 70 #[.int .u64 (x : Nat)] w fun e w' => ∃ r : Nat, r = x % PP ∧ e = .returned (.int .u64 (r : Nat)) ∧ w' = w := by
  have hxi : (x : Int) < 18446744073709551616 := by omega
  obtain ⟨a, ha⟩ : ∃ a, a = x % 2305843009213693952 := ⟨_, rfl⟩
  obtain ⟨b, hb⟩ : ∃ b, b = x / 2305843009213693952 := ⟨_, rfl⟩
  obtain ⟨s, hs⟩ : ∃ s, s = a + b := ⟨_, rfl⟩
  have hand : bits BinOp.and IntKind.u64 (x : Int) 2305843009213693951 = (a : Int) := by rw [ha]; exact and_mask61 hx
  have hdiv : (x : Int) / 2305843009213693952 = (b : Int) := by omega
  have hsum : (a : Int) + (b : Int) = (s : Int) := by omega
  obtain ⟨h1, h2⟩ := red_lt hx
  rw [← ha, ← hb, ← hs] at h1 h2
  have hsb : (s : Int) < 2305843009213693959 := by omega
  have hwr : IntKind.u64.wrap (s : Int) = (s : Int) := by rw [IntKind.wrap_u64]; omega
  have H2 := Lib.hid h2
  clear h2 ha hb hs hx
  by_cases hc : 2305843009213693951 ≤ s
  · obtain ⟨d, hd⟩ : ∃ d, d = s - 2305843009213693951 := ⟨_, rfl⟩
    have hsub : (s : Int) - 2305843009213693951 = (d : Int) := by omega
    have hwd : IntKind.u64.wrap (d : Int) = (d : Int) := by rw [IntKind.wrap_u64]; omega
    have HD : Hid (x % 2305843009213693951 = d) := Lib.hid (by rw [← H2.out, hd]; omega)
    have hci : decide ((2305843009213693951 : Int) ≤ (s : Int)) = true := by rw [decide_eq_true_iff]; omega
    clear hd hc h1
    go_enter Try.func70, Try.ntmps70
    go_wp2
    go_ret
    exact ⟨d, HD.out.symm, rfl, rfl⟩
  · have HD : Hid (x % 2305843009213693951 = s) := Lib.hid (by rw [← H2.out]; omega)
    have hci : decide ((2305843009213693951 : Int) ≤ (s : Int)) = false := by rw [decide_eq_false_iff_not]; omega
    clear hc h1
    go_enter Try.func70, Try.ntmps70
    go_wp2
    go_ret
    exact ⟨s, HD.out.symm, rfl, rfl⟩

set_option maxRecDepth 100000 in
theorem addm_any (x y : Nat) (hx : x < 18446744073709551616) (hy : y < 18446744073709551616) (w : World) : Calls Try.prog 59 #[.int .u64 (x : Nat), .int .u64 (y : Nat)] w fun e w' => ∃ r : Nat, r = (x + y) % PP ∧ e = .returned (.int .u64 (r : Nat)) ∧ w' = w := by
  have HX := Lib.hid hx
  have HY := Lib.hid hy
  obtain ⟨a, ha⟩ : ∃ a, a = x % 2305843009213693951 := ⟨_, rfl⟩
  obtain ⟨b, hb⟩ : ∃ b, b = y % 2305843009213693951 := ⟨_, rfl⟩
  obtain ⟨s, hs⟩ : ∃ s, s = a + b := ⟨_, rfl⟩
  have hsum : (a : Int) + (b : Int) = (s : Int) := by omega
  have hwr : IntKind.u64.wrap (s : Int) = (s : Int) := by rw [IntKind.wrap_u64]; omega
  have HS : Hid (s < 18446744073709551616) := Lib.hid (by omega)
  have HE : Hid (s % 2305843009213693951 = (x + y) % 2305843009213693951) := Lib.hid (by rw [hs, ha, hb, ← Nat.add_mod])
  have HA := Lib.hid ha
  have HB := Lib.hid hb
  clear hx hy ha hb hs
  go_enter Try.func59, Try.ntmps59
  go_wp2_with fail
  refine (reduce_any x HX.out _).mono ?_
  rintro e w1 ⟨r, hr, rfl, rfl⟩
  obtain rfl : r = a := by rw [hr, HA.out]; rfl
  clear hr
  go_wp2_with fail
  refine (reduce_any y HY.out _).mono ?_
  rintro e w2 ⟨r2, hr2, rfl, rfl⟩
  obtain rfl : r2 = b := by rw [hr2, HB.out]; rfl
  clear hr2
  go_wp2_with fail
  refine (reduce_any s HS.out _).mono ?_
  rintro e w3 ⟨z, hz, rfl, rfl⟩
  have HZ := Lib.hid hz
  clear hz
  go_wp2
  go_ret
  exact ⟨z, HZ.out.trans HE.out, rfl, rfl⟩

set_option maxRecDepth 100000 in
theorem mulm_any (x y : Nat) (hx : x < 18446744073709551616) (hy : y < 18446744073709551616) (w : World) : Calls Try.prog 60 #[.int .u64 (x : Nat), .int .u64 (y : Nat)] w fun e w' => ∃ r : Nat, r = (x * y) % PP ∧ e = .returned (.int .u64 (r : Nat)) ∧ w' = w := by
  have HX := Lib.hid hx
  have HY := Lib.hid hy
  obtain ⟨a, ha⟩ : ∃ a, a = x % 2305843009213693951 := ⟨_, rfl⟩
  obtain ⟨b, hb⟩ : ∃ b, b = y % 2305843009213693951 := ⟨_, rfl⟩
  have HM := Lib.hid (Try.bits_Mul64 a b (by omega) (by omega) w)
  obtain ⟨p, hp⟩ : ∃ p, p = a * b := ⟨_, rfl⟩
  rw [← hp] at HM
  obtain ⟨h, hh⟩ : ∃ h, h = p / 18446744073709551616 := ⟨_, rfl⟩
  obtain ⟨l, hl⟩ : ∃ l, l = p % 18446744073709551616 := ⟨_, rfl⟩
  rw [← hh, ← hl] at HM
  have hpb : p ≤ 2305843009213693950 * 2305843009213693950 := by rw [hp]; exact Nat.mul_le_mul (by omega) (by omega)
  have hll : l < 18446744073709551616 := by omega
  obtain ⟨m, hm⟩ : ∃ m, m = l % 2305843009213693952 := ⟨_, rfl⟩
  obtain ⟨q, hq⟩ : ∃ q, q = l / 2305843009213693952 := ⟨_, rfl⟩
  obtain ⟨t, ht⟩ : ∃ t, t = h * 8 := ⟨_, rfl⟩
  obtain ⟨u, hu⟩ : ∃ u, u = t + q := ⟨_, rfl⟩
  obtain ⟨s, hs⟩ : ∃ s, s = u + m := ⟨_, rfl⟩
  have hand : bits BinOp.and IntKind.u64 (l : Int) 2305843009213693951 = (m : Int) := by rw [hm]; exact and_mask61 hll
  have hdiv : (l : Int) / 2305843009213693952 = (q : Int) := by omega
  have hmul : (h : Int) * 8 = (t : Int) := by omega
  have hsu : (t : Int) + (q : Int) = (u : Int) := by omega
  have hss : (u : Int) + (m : Int) = (s : Int) := by omega
  have hwt : IntKind.u64.wrap (t : Int) = (t : Int) := by rw [IntKind.wrap_u64]; omega
  have hwu : IntKind.u64.wrap (u : Int) = (u : Int) := by rw [IntKind.wrap_u64]; omega
  have hws : IntKind.u64.wrap (s : Int) = (s : Int) := by rw [IntKind.wrap_u64]; omega
  have HS : Hid (s < 18446744073709551616) := Lib.hid (by omega)
  have HE : Hid (s % 2305843009213693951 = (x * y) % 2305843009213693951) := Lib.hid (by
    have e1 : s = p % 2305843009213693952 + p / 2305843009213693952 := by omega
    have e2 : p = (p % 2305843009213693952 + p / 2305843009213693952) + 2305843009213693951 * (p / 2305843009213693952) := by omega
    have e3 : p % 2305843009213693951 = s % 2305843009213693951 := by
      rw [e1]; conv => lhs; rw [e2]
      rw [Nat.add_mul_mod_self_left]
    rw [← e3, hp, ha, hb, ← Nat.mul_mod])
  have HA := Lib.hid ha
  have HB := Lib.hid hb
  clear hx hy ha hb hp hh hl hpb hll hm hq ht hu hs
  go_enter Try.func60, Try.ntmps60
  go_wp2_with fail
  refine (reduce_any x HX.out _).mono ?_
  rintro e w1 ⟨r, hr, rfl, rfl⟩
  obtain rfl : r = a := by rw [hr, HA.out]; rfl
  clear hr
  go_wp2_with fail
  refine (reduce_any y HY.out _).mono ?_
  rintro e w2 ⟨r2, hr2, rfl, rfl⟩
  obtain rfl : r2 = b := by rw [hr2, HB.out]; rfl
  clear hr2
  go_wp2_with fail
  refine HM.out.mono ?_
  rintro e w3 ⟨rfl, rfl⟩
  go_wp2_with fail
  refine (reduce_any s HS.out _).mono ?_
  rintro e w4 ⟨z, hz, rfl, rfl⟩
  have HZ := Lib.hid hz
  clear hz
  go_wp2
  go_ret
  exact ⟨z, HZ.out.trans HE.out, rfl, rfl⟩

/-- a power by squares -/
theorem pow_sq (a n m : Nat) : (a * a % m) ^ n % m = a ^ (2 * n) % m := by
  rw [← Nat.pow_mod, Nat.pow_mul, show a ^ 2 = a * a from Nat.pow_two a]

set_option maxRecDepth 100000 in
set_option maxHeartbeats 1000000 in
theorem powm_any (x n : Nat) (hx : x < 18446744073709551616) (hn : n < 18446744073709551616) (w : World) : Calls Try.prog 58 #[.int .u64 (x : Nat), .int .u64 (n : Nat)] w fun e w' => ∃ r : Nat, r = (x ^ n) % PP ∧ e = .returned (.int .u64 (r : Nat)) ∧ w' = w := by
  have HX := Lib.hid hx
  have HN := Lib.hid hn
  clear hx hn
  go_enter Try.func58, Try.ntmps58
  go_wp2_with fail
  refine (reduce_any x HX.out _).mono ?_
  rintro e w1 ⟨x0, hx0, rfl, rfl⟩
  have HX0 := Lib.hid hx0
  clear hx0
  go_upto_region 3 with fail
  go_loopg [0, 1, 5] (2 * n) (fun gg av nv rv wr => ∃ a k r : Nat, k ≤ n ∧ gg = 2 * k ∧ a < PP ∧ r < PP ∧ av = .int .u64 (a : Nat) ∧ nv = .int .u64 (k : Nat) ∧ rv = .int .u64 (r : Nat) ∧ wr = w1 ∧ (r * a ^ k) % PP = x ^ n % PP)
  case atStart => exact ⟨x0, n, 1, by omega, rfl, lt_PP HX0.out, by decide, rfl, rfl, rfl, rfl, by rw [Nat.one_mul, HX0.out, ← Nat.pow_mod]⟩
  case round =>
    obtain ⟨a, k, r, hk, rfl, ha, hr, rfl, rfl, rfl, rfl, hinv⟩ := hrel
    have HI := Lib.hid hinv
    have HA := Lib.hid ha
    have HR := Lib.hid hr
    have HK := Lib.hid hk
    clear hinv ha hr hk
    by_cases hk0 : k = 0
    · subst hk0
      have HF : Hid (r = x ^ n % PP) := Lib.hid (by
        have h := HI.out
        rw [Nat.pow_zero, Nat.mul_one, Nat.mod_eq_of_lt HR.out] at h
        exact h)
      go_wp2
      go_ret
      exact ⟨r, HF.out, rfl, rfl⟩
    · have hk1 : 0 < k := by omega
      obtain ⟨j, hj⟩ : ∃ j, j = k / 2 := ⟨_, rfl⟩
      have hdiv : (k : Int) / 2 = (j : Int) := by omega
      have hkb : (k : Int) < 18446744073709551616 := by have := HK.out; have := HN.out; omega
      have HRB : Hid (r < 18446744073709551616 ∧ a < 18446744073709551616) := Lib.hid (by have h1 := HR.out; have h2 := HA.out; rw [PP_val] at h1 h2; omega)
      by_cases hodd : k % 2 = 1
      · have hm2 : ((k : Int) % 2 == 1) = true := by rw [beq_iff_eq]; omega
        have HJ : Hid (k = 2 * j + 1) := Lib.hid (by omega)
        clear hodd hj
        go_wp2_with fail
        refine (mulm_any r a HRB.out.1 HRB.out.2 _).mono ?_
        rintro e w2 ⟨r2, hr2, rfl, rfl⟩
        have HR2 := Lib.hid hr2
        clear hr2
        go_wp2_with fail
        refine (mulm_any a a HRB.out.2 HRB.out.2 _).mono ?_
        rintro e w2 ⟨a2, ha2, rfl, rfl⟩
        have HA2 := Lib.hid ha2
        clear ha2
        go_wp2
        go_roundg (2 * j)
        case measure => have := HJ.out; omega
        case rel =>
          refine ⟨a2, j, r2, by have := HJ.out; have := HK.out; omega, rfl, lt_PP HA2.out, lt_PP HR2.out, rfl, rfl, rfl, rfl, ?_⟩
          rw [← HI.out, HJ.out, HA2.out, HR2.out, Nat.mul_mod, pow_sq, Nat.mod_mod, ← Nat.mul_mod, Nat.pow_succ, Nat.mul_assoc, Nat.mul_comm a]
      · have hm2 : ((k : Int) % 2 == 1) = false := by rw [beq_eq_false_iff_ne]; omega
        have HJ : Hid (k = 2 * j) := Lib.hid (by omega)
        clear hodd hj
        go_wp2_with fail
        refine (mulm_any a a HRB.out.2 HRB.out.2 _).mono ?_
        rintro e w2 ⟨a2, ha2, rfl, rfl⟩
        have HA2 := Lib.hid ha2
        clear ha2
        go_wp2
        go_roundg (2 * j)
        case measure => have := HJ.out; omega
        case rel =>
          refine ⟨a2, j, r, by have := HJ.out; have := HK.out; omega, rfl, lt_PP HA2.out, HR.out, rfl, rfl, rfl, rfl, ?_⟩
          rw [← HI.out, HJ.out, HA2.out, Nat.mul_mod, pow_sq, ← Nat.mul_mod]

end Go.Proofs.Ytflgmodofemifaa
