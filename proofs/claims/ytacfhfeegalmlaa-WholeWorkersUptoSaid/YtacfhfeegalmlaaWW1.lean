/-
  Joined texts: GENERIC SMALL LAWS, over any program: integer slices that can be read ('Rd'), integer slices of the call's own ('Own'), append to those. · GENERIC LAWS, over any program: rows of whatever cells that can be read or are the call's own; append, make, store. · GENERIC LAWS, over any program: what a call may have written ('Fr'), and what stands besides; append, with where the new row lies. · structs in a block of their own: what its cells hold, and that they may be written; results that are read out of such a block. · WHAT ONE GOROUTINE KNOWS AND OWNS, AND ITS STEPS IN COMPANY. A goroutine's knowledge: cells that stand for ever, blocks of its own, own cells of a shared row. The judgement GK: on its way to a stop, from every world that fits what it knows. Rules of control.
-/
import Derived.Test.YtacfhfeegalmlaaRows
import Derived.WalkKit
import Derived.ProofKit
import Derived.OpenShut
import Derived.WalkSpells
import Derived.WalkLawsBesides
import Derived.Lib.Hide
import Derived.SizedLaws
import Derived.ChangeSlices
import Derived.Maps.AppendAt
import Derived.Deep.MidRow
import Derived.Laws.ResultCell
import Derived.Deep.LoopGhost
import Derived.Deep.Cut
import Derived.Deep.CutRange
import Derived.Deep.DeepCutAuto
import Derived.Deep.RegionLaw
import Derived.Deep.RegionHeld3
import Derived.Conc.CompanyDraw
import Derived.Conc.Know
import Derived.Conc.CrowdComm
import Derived.Conc.TokenWalk
import Derived.Conc.WrSpec

/- GENERIC SMALL LAWS, over any program: integer slices that can be read ('Rd'), integer slices of the call's own ('Own'), append to those. -/
namespace Go.Proofs.Ytacfhfeegalmlaa
open Go.RowKit
set_option linter.unusedVariables false
set_option linter.unusedSimpArgs false

/-- the n elements of a slice value with address a read as the numbers l -/
structure Rd (w : World) (k : IntKind) (a : Option Addr) (n : Nat) (l : List Int) : Prop where
  len : l.length = n
  max : n ≤ 9223372036854775807
  cell : ∀ i, i < n → ∃ b off, a = some ⟨b, off, none⟩ ∧ w.cell? ⟨b, off + i, none⟩ = some (.int k (l.getD i 0))
  wf : ∀ x ∈ l, (Lit.int k x).wf = true

theorem Rd.below {w w' : World} {k a n l} (h : Rd w k a n l) (hb : Below w.heap.size w w') : Rd w' k a n l :=
  ⟨h.len, h.max, fun i hi => by
    obtain ⟨b, off, ha, hc⟩ := h.cell i hi
    exact ⟨b, off, ha, (hb.cell (World.block_lt_of_cell? w _ hc)).trans hc⟩, h.wf⟩

theorem Rd.lt {w : World} {k a n l} (h : Rd w k a n l) : ∀ x, a = some x → 0 < n → x.block < w.heap.size := by
  intro x hx hn
  obtain ⟨b, off, ha, hc⟩ := h.cell 0 hn
  rw [hx] at ha; cases ha
  exact World.block_lt_of_cell? w _ hc

/-- a slice of the call's own, from block 'base' on -/
def Own (w : World) (base : Nat) (e : TypeId) (k : IntKind) (v : Value) (l : List Int) : Prop :=
  w.ownsRow base e 1 v l.length (l.map (Value.int k))

theorem Own.drew {w : World} {base e k v l} (h : Own w base e k v l) : Own w.drew base e k v l := h
theorem Own.alloc {w : World} {base e k v l} (h : Own w base e k v l) (o : Obj) : Own (w.alloc o) base e k v l := World.ownsRow.alloc h o
theorem Own.kept {w w' : World} {base e k v l row} (h : Own w base e k v l) (hg : w.grownBy w' row) (hne : v.ownBlock = none ∨ v.ownBlock ≠ row) : Own w' base e k v l := World.ownsRow.kept h hg hne

theorem Own.below {w w' : World} {base e k v l} (h : Own w base e k v l) (hb : Below w.heap.size w w') : Own w' base e k v l := by
  refine ⟨h.1, ?_⟩
  rcases h.2 with hn | ⟨g, cap, cur, rfl, hbb, hgg, rest⟩
  · exact .inl hn
  · exact .inr ⟨g, cap, cur, rfl, hbb, by rw [hb.block g (Array.getElem?_eq_some_iff.1 hgg).1]; exact hgg, rest⟩

theorem Own.mono {w : World} {base base' e k v l} (h : Own w base e k v l) (hb : base' ≤ base) : Own w base' e k v l := by
  refine ⟨h.1, ?_⟩
  rcases h.2 with hn | ⟨g, cap, cur, rfl, hbb, r⟩
  · exact .inl hn
  · exact .inr ⟨g, cap, cur, rfl, by omega, r⟩

theorem Own.rd {w : World} {base e k a n c l} (h : Own w base e k (.slice a n c) l) (hwf : ∀ x ∈ l, (Lit.int k x).wf = true) : Rd w k a n l := by
  have hw := h
  obtain ⟨h1, h2⟩ := h
  rcases h2 with ⟨hv, hn⟩ | ⟨g, cap, cur, hv, hb, hgg, hnc, hcm, hcs, htake⟩
  · cases hv
    have hl : l = [] := List.eq_nil_of_length_eq_zero hn
    subst hl
    exact ⟨rfl, by omega, fun i hi => by omega, hwf⟩
  · cases hv
    refine ⟨rfl, by unfold maxLen at hcm; omega, fun i hi => ⟨g, 0, rfl, ?_⟩, hwf⟩
    have := World.ownsRow.cellAt hw i (by simpa using hi)
    rw [Nat.zero_add, this]
    simp [List.getD, hi]

theorem Own.form {w : World} {base e k v l} (h : Own w base e k v l) : ∃ a c, v = .slice a l.length c := by
  rcases h.2 with ⟨rfl, h0⟩ | ⟨g, cap, cur, rfl, _⟩
  · exact ⟨none, 0, by rw [h0]⟩
  · exact ⟨_, _, rfl⟩

/-- the facts on an integer slice's type and its element's -/
structure Elt (P : Program) (t e : TypeId) (k : IntKind) (bytes : Nat) : Prop where
  ht : P.underlying t = some (.slice e)
  hi : ∃ i, P.info? e = some i ∧ i.zero = some (.int k 0) ∧ i.size = 1 ∧ i.bytes = bytes

theorem Rd.news {w : World} {k a n l} (h : Rd w k (some a) n l) : ∀ j u, (l.map (Value.int k))[j]? = some u → w.cell? (a.add j) = some u := by
  intro j u hu
  simp only [List.getElem?_map, Option.map_eq_some_iff] at hu
  obtain ⟨x, hx, rfl⟩ := hu
  have hj : j < l.length := (List.getElem?_eq_some_iff.1 hx).1
  obtain ⟨b, off, ha, hc⟩ := h.cell j (by rw [← h.len]; exact hj)
  cases ha
  rw [Addr.add_lit, hc]
  simp [List.getD, hx]

theorem grown_below {w w' : World} {v : Value} {base e k l} (ho : Own w base e k v l) (hg : w.grownBy w' v.ownBlock) (hb : base ≤ w.heap.size) : Below base w w' :=
  (Below.refl _ _).grown hg hb (fun x hx => (ho.lt x hx).1)

/-- append of a readable slice to one of the call's own -/
theorem app_rd {P : Program} {w : World} {ops : Array Oper} {rest : List Oper} {o : Oper} {a : Act} {Q : Exit → Act → World → Prop} (s x : Operand) {t e : TypeId} {k : IntKind} {bytes : Nat} (E : Elt P t e k bytes)
    (hgd : o.guard = none) (ho : o.op = .call { callee := .builtin .append, args := #[s, x], argTypes := #[t, t] })
    (base : Nat) (v : Value) (l : List Int) (hs : a.eval s = v) (hown : Own w base e k v l) (ad : Option Addr) (m c : Nat) (l2 : List Int) (hx : a.eval x = .slice ad m c) (hr : Rd w k ad m l2)
    (hlen : (l.length + l2.length) * bytes ≤ 140737488355328) (hpos : 0 < bytes) (hbase : base ≤ w.heap.size)
    (h : ∀ a' c' w', Own w' base e k (.slice a' (l ++ l2).length c') (l ++ l2) → w.grownBy w' v.ownBlock → wpList P ops Q rest (a.put o.dst (.slice a' (l ++ l2).length c')) w') : wpList P ops Q (o :: rest) a w := by
  obtain ⟨i, hi, hz, hsz, hby⟩ := E.hi
  have hm : m = l2.length := hr.len.symm
  have hb2 : (l.length + l2.length) ≤ 140737488355328 := Nat.le_trans (Nat.le_mul_of_pos_right _ hpos) hlen
  cases ad with
  | some ad =>
    refine wpList_append_own w hgd s x t ho base e i (.int k 0) 1 bytes E.ht hi hz hsz hby rfl (by decide) v l.length (l.map (Value.int k)) hs hown ad m c (l2.map (Value.int k)) hx (by simp [hm]) hr.news (ints_oneCell k l2)
      (by unfold maxLen; omega) (by rw [hm]; exact hlen) hbase ?_
    intro v' w' ho' hg' _
    have ho2 : Own w' base e k v' (l ++ l2) := by
      unfold Own
      rw [List.map_append, List.length_append, ← hm]; exact ho'
    obtain ⟨a', c', rfl⟩ := ho2.form
    exact h a' c' w' ho2 hg'
  | none =>
    have h0 : m = 0 := by
      rcases Nat.eq_zero_or_pos m with h0 | h0
      · exact h0
      · obtain ⟨b, off, ha, _⟩ := hr.cell 0 h0; cases ha
    subst h0
    have hl2 : l2 = [] := List.eq_nil_of_length_eq_zero hm.symm
    subst hl2
    refine wpList_plain hgd fun K hK' => ?_
    have hrun : (Builtin.append_ #[t, t] o.type #[v, .slice none 0 c]).run P w = .ok v w := by
      rcases hown.2 with ⟨rfl, h0⟩ | ⟨g, cap, cur, rfl, _, _, hnc, _⟩
      · simp [Builtin.append_, run_underlying E.ht, sizeOf, typeInfo, hi, Builtin.lenOf, Builtin.firstCells]
      · simp [Builtin.append_, run_underlying E.ht, sizeOf, typeInfo, hi, Builtin.lenOf, Builtin.firstCells, hnc, storeCells]
    unfold Oper.wp
    simp [execOp, ho, resolve, invoke, builtin, hs, hx, hrun, Result.andThen]
    obtain ⟨a', c', rfl⟩ := hown.form
    refine hK' _ _ ?_
    have := h a' c' w (by simpa using hown) (World.grownBy.refl _ _)
    simpa using this

/-- one new cell, as append's second argument has it -/
theorem Rd.one (w : World) (k : IntKind) (e : TypeId) (x : Int) (hx : (Lit.int k x).wf = true) : Rd (w.alloc (.cells #[.int k x] e)) k (some ⟨w.heap.size, 0, none⟩) 1 [x] :=
  ⟨rfl, by omega, fun i hi => ⟨_, _, rfl, by
    obtain rfl : i = 0 := by omega
    rw [Nat.zero_add, World.cell?_alloc_new]; rfl⟩, by simpa using hx⟩

/-- a new block of listed numbers -/
theorem Rd.lits (w : World) (k : IntKind) (e : TypeId) (l : List Int) (hm : l.length ≤ 9223372036854775807) (hx : ∀ x ∈ l, (Lit.int k x).wf = true) : Rd (w.alloc (.cells (l.map (Value.int k)).toArray e)) k (some ⟨w.heap.size, 0, none⟩) l.length l :=
  ⟨rfl, hm, fun i hi => ⟨_, _, rfl, by rw [Nat.zero_add, World.cell?_alloc_new]; simp [hi]⟩, hx⟩

theorem Own.lits (w : World) (k : IntKind) (e : TypeId) (l : List Int) (base : Nat) (hb : base ≤ w.heap.size) (hm : l.length ≤ 9223372036854775807) : Own (w.alloc (.cells (l.map (Value.int k)).toArray e)) base e k (.slice (some ⟨w.heap.size, 0, none⟩) l.length l.length) l := by
  have := World.ownsRow_lit (e := e) (base := base) (size := 1) w (l.map (Value.int k)).toArray l.length hb (by unfold maxLen; omega) (by simp)
  simpa [Own] using this

theorem Own.nil (w : World) (base : Nat) (e : TypeId) (k : IntKind) : Own w base e k (.slice none 0 0) [] := World.ownsRow_nil w base e 1

theorem below_alloc (w : World) (o : Obj) : Below w.heap.size w (w.alloc o) := (Below.refl _ _).alloc (Nat.le_refl _) o

theorem below_cell {W w1 : World} (hb : Below W.heap.size W w1) {a : Addr} {v : Value} (h : W.cell? a = some v) : w1.cell? a = some v := (hb.cell (World.block_lt_of_cell? W _ h)).trans h

theorem bthen {a b c : World} (h : Below a.heap.size a b) (k : Below b.heap.size b c) : Below a.heap.size a c := h.trans (k.mono h.size)

theorem bd_u8 {x : Int} (h : (Lit.int .u8 x).wf = true) : 0 ≤ x ∧ x ≤ 255 := by simpa [Lit.wf, IntKind.min, IntKind.max, IntKind.signed, IntKind.bits] using h
theorem bd_u64 {x : Int} (h : (Lit.int .u64 x).wf = true) : 0 ≤ x ∧ x ≤ 18446744073709551615 := by simpa [Lit.wf, IntKind.min, IntKind.max, IntKind.signed, IntKind.bits] using h
theorem bd_i64 {x : Int} (h : (Lit.int .i64 x).wf = true) : -9223372036854775808 ≤ x ∧ x ≤ 9223372036854775807 := by simpa [Lit.wf, IntKind.min, IntKind.max, IntKind.signed, IntKind.bits] using h

theorem run_str {P : Program} (w : World) {k a n l} (c : Nat) (h : Rd w k a n l) (hk : k = .u8) (src dst e : TypeId) (hs : P.underlying src = some (.slice e)) (he : P.underlying e = some (.int .u8)) (hd : P.underlying dst = some .string) :
    (convert src dst (.slice a n c)).run P w = .ok (.string (strOfNums l)) w := by
  subst hk
  rcases Nat.eq_zero_or_pos n with h0 | h0
  · have hl : l = [] := List.eq_nil_of_length_eq_zero (by rw [h.len]; exact h0)
    subst hl; subst h0
    cases a with
    | none => rw [run_convert_bytes_nil w src e hs he _ _ dst hd]; rfl
    | some a =>
      rw [run_convert_bytes_string w src dst e _ 0 c hs he hd, run_bytesToString w a 0 c [] (by simp [loadCells, loadCellsFrom])]
      rfl
  · obtain ⟨b, off, rfl, _⟩ := h.cell 0 h0
    exact run_convert_bytes_arg w src e hs he b off n c l h.len (fun i hi => by
      obtain ⟨b', off', hb, hc⟩ := h.cell i hi
      cases hb; exact hc) dst hd

theorem slice_reach {α : Type} {n sp by_ : Nat} {elems : List α} (h : (elems.length + sp) * by_ ≤ reachBytes) (hl : elems.length = n) : n * by_ ≤ 140737488351232 := by
  subst hl
  have h2 : elems.length * by_ ≤ (elems.length + sp) * by_ := Nat.mul_le_mul_right _ (by omega)
  have h3 : reachBytes = 140737488351232 := by decide
  omega

theorem str_reach {α : Type} {s : List α} {n : Nat} (h : s.length ≤ reachBytes) (hn : s.length = n := by rfl) : n ≤ 140737488351232 := by
  have h3 : reachBytes = 140737488351232 := by decide
  omega

theorem open_rd {H : Type} {enc : TypeId × Value → H} {P : Program} {W : World} {t e : TypeId} {k : IntKind} {a : Option Addr} {n c : Nat} {d : DataW H} {p : List MemPlace}
    (ht : P.underlying t = some (.slice e)) (he : P.underlying e = some (.int k)) (hc : P.cellsOf e = 1)
    (h : DataW.Trod enc P W 0 (fun _ => true) true t (.slice a n c) d p) : ∃ l, Rd W k a n l ∧ n ≤ c ∧ ((d = .nil ∧ n = 0) ∨ ∃ elems spare, d = .slice elems spare ∧ elems.length = n) := by
  obtain ⟨fuel, hf⟩ := h
  rcases Go.ChangeShapes.open_ints ht he hc hf with ⟨hcs, hx⟩ | ⟨x, l, c', zs, hcs, _, hl, hm, hz, hx, hcell, hwz⟩
  · simp [Value.cells] at hcs
    obtain ⟨rfl, rfl, rfl⟩ := hcs
    refine ⟨[], ⟨rfl, by omega, fun i hi => by omega, by simp⟩, by omega, .inl ⟨by simpa using congrArg Prod.fst hx, rfl⟩⟩
  · simp [Value.cells] at hcs
    obtain ⟨rfl, rfl, rfl⟩ := hcs
    have hz' : zs.length = c := by simpa using hz
    refine ⟨zs.take n, ⟨by rw [List.length_take]; omega, by unfold maxLen at hm; omega, fun i hi => ?_, fun y hy => hwz y (List.mem_of_mem_take hy)⟩, hl, .inr ⟨_, _, congrArg Prod.fst hx, by simp [Go.ChangeShapes.lits]; omega⟩⟩
    have h1 := hcell i (by omega)
    have hspot := World.cell?_spot (hcell 0 (by omega))
    obtain ⟨b, off, spot⟩ := x
    have : spot = none := by simpa [Addr.add] using hspot
    subst this
    refine ⟨b, off, rfl, ?_⟩
    rw [Addr.add_lit] at h1
    rw [h1]
    simp [List.getD, hi]

/-- make([]T, 0, n) with a size that is a number -/
theorem make_own {P : Program} {w : World} {ops : Array Oper} {rest : List Oper} {o : Oper} {a : Act} {Q : Exit → Act → World → Prop} {t e : TypeId} {k : IntKind} {bytes : Nat} (E : Elt P t e k bytes)
    (hgd : o.guard = none) (s x : Operand) (ho : o.op = Op.makeSlice t s x) (base : Nat) (kl kc : IntKind) (C : Int) (n : Nat) (hs : a.eval s = .int kl 0) (hx : a.eval x = .int kc C) (hC : C = (n : Int))
    (hb : n * bytes ≤ 281474976710656) (hn : n ≤ 9223372036854775807) (hbase : base ≤ w.heap.size)
    (h : ∀ w', Own w' base e k (.slice (some ⟨w.heap.size, 0, none⟩) 0 n) [] → w.grownBy w' none → wpList P ops Q rest (a.put o.dst (.slice (some ⟨w.heap.size, 0, none⟩) 0 n)) w') : wpList P ops Q (o :: rest) a w := by
  obtain ⟨i, hi, hz, hsz, hby⟩ := E.hi
  exact wpList_make_own w hgd s x t ho base e i (.int k 0) 1 E.ht hi hz hsz kl kc C n hs hx hC (by rw [hby, Nat.mul_comm]; exact hb) (by unfold maxLen; omega) hbase h

/-- make([]T, n) -/
theorem make_full {P : Program} {w : World} {ops : Array Oper} {rest : List Oper} {o : Oper} {a : Act} {Q : Exit → Act → World → Prop} {t e : TypeId} {k : IntKind} {bytes : Nat} (E : Elt P t e k bytes)
    (hgd : o.guard = none) (s x : Operand) (ho : o.op = Op.makeSlice t s x) (base : Nat) (kl kc : IntKind) (L C : Int) (n : Nat) (hs : a.eval s = .int kl L) (hx : a.eval x = .int kc C) (hL : L = (n : Int)) (hC : C = (n : Int))
    (hb : n * bytes ≤ 281474976710656) (hn : n ≤ 9223372036854775807) (hbase : base ≤ w.heap.size)
    (h : ∀ w', Own w' base e k (.slice (some ⟨w.heap.size, 0, none⟩) n n) (List.replicate n 0) → w.grownBy w' none → wpList P ops Q rest (a.put o.dst (.slice (some ⟨w.heap.size, 0, none⟩) n n)) w') : wpList P ops Q (o :: rest) a w := by
  obtain ⟨i, hi, hz, hsz, hby⟩ := E.hi
  refine wpList_make_full w hgd s x t ho base e i (.int k 0) 1 E.ht hi hz hsz kl kc L C n hs hx hL hC (by rw [hby, Nat.mul_comm]; exact hb) (by unfold maxLen; omega) hbase fun w' h1 h2 => h w' ?_ h2
  have e1 : (madeCells (Value.int k 0).cells (n * 1)).toList = (List.replicate n (0 : Int)).map (Value.int k) := by
    rw [Nat.mul_one, show (Value.int k 0).cells = #[.int k 0] from rfl, toList_madeCells_one, List.map_replicate]
  unfold Own
  rw [← e1, List.length_replicate]
  exact h1

theorem grown_below' {w w' : World} {base : Nat} (hg : w.grownBy w' none) (hb : base ≤ w.heap.size) : Below base w w' :=
  (Below.refl _ _).grown hg hb (fun x hx => by cases hx)

theorem Elt.elem {P : Program} {t e : TypeId} {k : IntKind} {bytes : Nat} (E : Elt P t e k bytes) : P.elem t = e := by
  have := E.ht
  unfold Program.elem
  rw [this]

theorem Elt.sz {P : Program} {t e : TypeId} {k : IntKind} {bytes : Nat} (E : Elt P t e k bytes) (w : World) : (sizeOf e).run P w = .ok 1 w := by
  obtain ⟨i, hi, _, hs, _⟩ := E.hi
  simp [sizeOf, typeInfo, hi, hs]

theorem Rd.drop_ {w : World} {k a n l} (h : Rd w k a n l) {c u : Nat} (hu : u ≤ n) (hnc : n ≤ c) : Rd w k (if c = u then a else a.map (·.add (u * 1))) (n - u) (l.drop u) := by
  refine ⟨by rw [List.length_drop, h.len], by have := h.max; omega, fun i hi => ?_, fun x hx => h.wf x (List.mem_of_mem_drop hx)⟩
  obtain ⟨b, off, rfl, hc⟩ := h.cell (u + i) (by omega)
  rw [if_neg (by omega)]
  refine ⟨b, off + u, by simp [Addr.add_lit], ?_⟩
  rw [Nat.add_assoc, hc]
  simp [List.getD]

theorem Rd.take_ {w : World} {k a n l} (h : Rd w k a n l) {u : Nat} (hu : u ≤ n) : Rd w k a u (l.take u) := by
  refine ⟨by rw [List.length_take, h.len]; omega, by have := h.max; omega, fun i hi => ?_, fun x hx => h.wf x (List.mem_of_mem_take hx)⟩
  obtain ⟨b, off, rfl, hc⟩ := h.cell i (by omega)
  refine ⟨b, off, rfl, ?_⟩
  rw [hc]
  simp [List.getD, hi]

/-- s[u:] -/
theorem Rd.cutL {P : Program} {t e : TypeId} {w0 : World} {k a n l} {bytes : Nat} (E : Elt P t e k bytes) (h : Rd w0 k a n l) {c u : Nat} (hu : u ≤ n) (hnc : n ≤ c) :
    ∃ a', Rd w0 k a' (n - u) (l.drop u) ∧ ∀ (kl : IntKind) (w : World), (Instr.slice t (.slice a n c) (some (.int kl (u : Int))) none none).run P w = .ok (.slice a' (n - u) (c - u)) w := by
  refine ⟨_, h.drop_ hu hnc, fun kl w => ?_⟩
  rw [run_slice_l (P := P) w t a n c (by rw [E.elem]; exact E.ht) kl u (by omega) (by omega), E.elem, E.sz]
  simp [sliced, Result.andThen]

/-- s[u:v] -/
theorem Rd.cutLH {P : Program} {t e : TypeId} {w0 : World} {k a n l} {bytes : Nat} (E : Elt P t e k bytes) (h : Rd w0 k a n l) {c u v : Nat} (hu : u ≤ v) (hv : v ≤ n) (hnc : n ≤ c) :
    ∃ a', Rd w0 k a' (v - u) ((l.take v).drop u) ∧ ∀ (kl kh : IntKind) (w : World), (Instr.slice t (.slice a n c) (some (.int kl (u : Int))) (some (.int kh (v : Int))) none).run P w = .ok (.slice a' (v - u) (c - u)) w := by
  refine ⟨_, (h.take_ hv).drop_ (c := c) hu (by omega), fun kl kh w => ?_⟩
  rw [run_slice_lh (P := P) w t a n c (by rw [E.elem]; exact E.ht) kl kh u v (by omega) (by omega) (by omega), E.elem, E.sz]
  simp [sliced, Result.andThen]

theorem Own.cap {w : World} {base e k a n c l} (h : Own w base e k (.slice a n c) l) : n ≤ c := by
  rcases h.2 with ⟨hv, hn⟩ | ⟨g, cap, cur, hv, _, _, hnc, _⟩
  · cases hv; omega
  · cases hv; exact hnc

/-- s[:v] -/
theorem Rd.cutH {P : Program} {t e : TypeId} {w0 : World} {k a n l} {bytes : Nat} (E : Elt P t e k bytes) (h : Rd w0 k a n l) {c v : Nat} (hv : v ≤ n) (hnc : n ≤ c) :
    ∃ a', Rd w0 k a' v (l.take v) ∧ ∀ (kh : IntKind) (w : World), (Instr.slice t (.slice a n c) none (some (.int kh (v : Int))) none).run P w = .ok (.slice a' v c) w := by
  have h0 := (h.take_ hv).drop_ (c := c) (Nat.zero_le _) (by omega)
  rw [List.drop_zero, Nat.sub_zero] at h0
  refine ⟨_, h0, fun kh w => ?_⟩
  rw [run_slice_h (P := P) w t a n c (by rw [E.elem]; exact E.ht) kh v (by omega) (by omega), E.elem, E.sz]
  simp [sliced, Result.andThen]

theorem ret_eq {a b : Value} (h : a = b) : Ending.returned a = .returned b := by rw [h]

theorem drop_cons_d {α : Type} {l : List α} {d : α} {k : Nat} (h : k < l.length) : l.drop k = l.getD k d :: l.drop (k + 1) := by
  rw [List.drop_eq_getElem_cons h]; simp [List.getD, h]
theorem drop_cons {l : List Int} {k : Nat} (h : k < l.length) : l.drop k = l.getD k 0 :: l.drop (k + 1) := drop_cons_d h
theorem getD_take_snoc {α : Type} {l : List α} {d : α} {i : Nat} (h : i < l.length) : l.take (i + 1) = l.take i ++ [l.getD i d] := by
  rw [List.take_succ_eq_append_getElem h]; simp [List.getD, h]
theorem getD_mem {α : Type} {l : List α} {d : α} {i : Nat} (h : i < l.length) : l.getD i d ∈ l := by simp [List.getD, h]

end Go.Proofs.Ytacfhfeegalmlaa

/- GENERIC LAWS, over any program: rows of whatever cells that can be read or are the call's own; append, make, store. -/
namespace Go.Proofs.Ytacfhfeegalmlaa
open Go.RowKit
set_option linter.unusedVariables false
set_option linter.unusedSimpArgs false

/-- the cells of the n elements (size cells each) of a slice value with address a -/
structure RdG (w : World) (size : Nat) (a : Option Addr) (n : Nat) (xs : List Value) : Prop where
  len : xs.length = n * size
  cell : ∀ j u, xs[j]? = some u → ∃ b off, a = some ⟨b, off, none⟩ ∧ w.cell? ⟨b, off + j, none⟩ = some u

theorem RdG.below {w w' : World} {size a n xs} (h : RdG w size a n xs) (hb : Below w.heap.size w w') : RdG w' size a n xs :=
  ⟨h.len, fun j u hu => by
    obtain ⟨b, off, ha, hc⟩ := h.cell j u hu
    exact ⟨b, off, ha, below_cell hb hc⟩⟩

theorem RdG.news {w : World} {size a n xs} (h : RdG w size (some a) n xs) : ∀ j u, xs[j]? = some u → w.cell? (a.add j) = some u := by
  intro j u hu
  obtain ⟨b, off, ha, hc⟩ := h.cell j u hu
  cases ha
  rw [Addr.add_lit]; exact hc

/-- a new block of listed cells -/
theorem RdG.lits (w : World) (size : Nat) (e : TypeId) (n : Nat) (xs : List Value) (hl : xs.length = n * size) : RdG (w.alloc (.cells xs.toArray e)) size (some ⟨w.heap.size, 0, none⟩) n xs :=
  ⟨hl, fun j u hu => ⟨_, _, rfl, by rw [Nat.zero_add, World.cell?_alloc_new]; simpa using hu⟩⟩

/-- facts on a slice's type and its element's -/
structure EltG (P : Program) (t e : TypeId) (z : Value) (size bytes : Nat) : Prop where
  ht : P.underlying t = some (.slice e)
  hi : ∃ i, P.info? e = some i ∧ i.zero = some z ∧ i.size = size ∧ i.bytes = bytes
  hz : z.cells.size = size
  h0 : 0 < size

abbrev Row (w : World) (base : Nat) (e : TypeId) (size : Nat) (v : Value) (n : Nat) (xs : List Value) : Prop := w.ownsRow base e size v n xs

theorem Row.form {w : World} {base e size v n xs} (h : Row w base e size v n xs) : ∃ a c, v = .slice a n c := by
  rcases h.2 with ⟨rfl, h0⟩ | ⟨g, cap, cur, rfl, _⟩
  · exact ⟨none, 0, by rw [h0]⟩
  · exact ⟨_, _, rfl⟩

theorem Row.below {w w' : World} {base e size v n xs} (h : Row w base e size v n xs) (hb : Below w.heap.size w w') : Row w' base e size v n xs := by
  refine ⟨h.1, ?_⟩
  rcases h.2 with hn | ⟨g, cap, cur, rfl, hbb, hgg, rest⟩
  · exact .inl hn
  · exact .inr ⟨g, cap, cur, rfl, hbb, by rw [hb.block g (Array.getElem?_eq_some_iff.1 hgg).1]; exact hgg, rest⟩

theorem Row.mono {w : World} {base base' e size v n xs} (h : Row w base e size v n xs) (hb : base' ≤ base) : Row w base' e size v n xs := by
  refine ⟨h.1, ?_⟩
  rcases h.2 with hn | ⟨g, cap, cur, rfl, hbb, r⟩
  · exact .inl hn
  · exact .inr ⟨g, cap, cur, rfl, by omega, r⟩

theorem Row.cap {w : World} {base e size a n c m xs} (h : Row w base e size (.slice a n c) m xs) : n ≤ c := by
  rcases h.2 with ⟨hv, hn⟩ | ⟨g, cap, cur, hv, _, _, hnc, _⟩
  · cases hv; omega
  · cases hv; exact hnc

theorem Row.rdG {w : World} {base e size a n c xs} (h : Row w base e size (.slice a n c) n xs) : RdG w size a n xs := by
  refine ⟨h.1, fun j u hu => ?_⟩
  have hj : j < n * size := by rw [← h.1]; exact (List.getElem?_eq_some_iff.1 hu).1
  rcases h.2 with ⟨hv, hn⟩ | ⟨g, cap, cur, hv, _⟩
  · subst hn; omega
  · cases hv
    refine ⟨g, 0, rfl, ?_⟩
    rw [Nat.zero_add, World.ownsRow.cellAt h j hj, hu]

/-- two rows of different element types lie in different blocks -/
theorem Row.apart {w : World} {base base' e e' size size' v v' n n' xs xs'} (h : Row w base e size v n xs) (h' : Row w base' e' size' v' n' xs') (hne : e ≠ e') : v.ownBlock = none ∨ v.ownBlock ≠ v'.ownBlock := by
  rcases h.2 with ⟨rfl, _⟩ | ⟨g, cap, cur, rfl, _, hg, _⟩
  · exact .inl rfl
  · refine .inr ?_
    rcases h'.2 with ⟨rfl, _⟩ | ⟨g', cap', cur', rfl, _, hg', _⟩
    · simp [Value.ownBlock]
    · intro hh
      have hgg : g = g' := by simpa [Value.ownBlock] using hh
      subst hgg
      rw [hg] at hg'
      simp only [Option.some.injEq, Obj.cells.injEq] at hg'
      exact hne hg'.2.1

/-- a row stays while another one, of another element type, is written -/
theorem Row.keep {w w' : World} {base base' e e' size size' v v' n n' xs xs'} (h : Row w base e size v n xs) (h' : Row w base' e' size' v' n' xs') (hne : e ≠ e') (hg : w.grownBy w' v'.ownBlock) : Row w' base e size v n xs :=
  World.ownsRow.kept h hg (h.apart h' hne)

theorem Row.grown {w w' : World} {base e size v n xs} (ho : Row w base e size v n xs) (hg : w.grownBy w' v.ownBlock) (hb : base ≤ w.heap.size) : Below base w w' :=
  (Below.refl _ _).grown hg hb (fun x hx => (World.ownsRow.lt ho x hx).1)

/-- append of readable cells to a row of the call's own -/
theorem app_row {P : Program} {w : World} {ops : Array Oper} {rest : List Oper} {o : Oper} {a : Act} {Q : Exit → Act → World → Prop} (s x : Operand) {t e : TypeId} {z : Value} {size bytes : Nat} (E : EltG P t e z size bytes)
    (hgd : o.guard = none) (ho : o.op = .call { callee := .builtin .append, args := #[s, x], argTypes := #[t, t] })
    (base : Nat) (v : Value) (n : Nat) (xs : List Value) (hs : a.eval s = v) (hown : Row w base e size v n xs) (ad : Option Addr) (m c : Nat) (news : List Value) (hx : a.eval x = .slice ad m c) (hr : RdG w size ad m news) (h1 : ∀ u ∈ news, u.oneCell' = true)
    (hlen : (n + m) * bytes ≤ 140737488355328) (hpos : 0 < bytes) (hbase : base ≤ w.heap.size)
    (h : ∀ a' c' w', Row w' base e size (.slice a' (n + m) c') (n + m) (xs ++ news) → w.grownBy w' v.ownBlock → wpList P ops Q rest (a.put o.dst (.slice a' (n + m) c')) w') : wpList P ops Q (o :: rest) a w := by
  obtain ⟨i, hi, hz, hsz, hby⟩ := E.hi
  have hb2 : (n + m) ≤ 140737488355328 := Nat.le_trans (Nat.le_mul_of_pos_right _ hpos) hlen
  cases ad with
  | some ad =>
    refine wpList_append_own w hgd s x t ho base e i z size bytes E.ht hi hz hsz hby E.hz E.h0 v n xs hs hown ad m c news hx hr.len hr.news h1 (by unfold maxLen; omega) hlen hbase ?_
    intro v' w' ho' hg' _
    obtain ⟨a', c', rfl⟩ := Row.form ho'
    exact h a' c' w' ho' hg'
  | none =>
    have hl0 : news = [] := by
      cases news with
      | nil => rfl
      | cons u r => obtain ⟨b, off, ha, _⟩ := hr.cell 0 u rfl; cases ha
    subst hl0
    have h0 : m = 0 := by
      have := hr.len
      have h3 := E.h0
      simp only [List.length_nil] at this
      rcases Nat.mul_eq_zero.1 this.symm with h4 | h4 <;> omega
    subst h0
    refine wpList_plain hgd fun K hK' => ?_
    have hrun : (Builtin.append_ #[t, t] o.type #[v, .slice none 0 c]).run P w = .ok v w := by
      rcases hown.2 with ⟨rfl, h0⟩ | ⟨g, cap, cur, rfl, _, _, hnc, _⟩
      · simp [Builtin.append_, run_underlying E.ht, sizeOf, typeInfo, hi, Builtin.lenOf, Builtin.firstCells]
      · simp [Builtin.append_, run_underlying E.ht, sizeOf, typeInfo, hi, Builtin.lenOf, Builtin.firstCells, hnc, storeCells]
    unfold Oper.wp
    simp [execOp, ho, resolve, invoke, builtin, hs, hx, hrun, Result.andThen]
    obtain ⟨a', c', rfl⟩ := Row.form hown
    refine hK' _ _ ?_
    have := h a' c' w (by simpa using hown) (World.grownBy.refl _ _)
    simpa using this

/-- make([]T, n) -/
theorem make_row {P : Program} {w : World} {ops : Array Oper} {rest : List Oper} {o : Oper} {a : Act} {Q : Exit → Act → World → Prop} {t e : TypeId} {z : Value} {size bytes : Nat} (E : EltG P t e z size bytes)
    (hgd : o.guard = none) (s x : Operand) (ho : o.op = Op.makeSlice t s x) (base : Nat) (kl kc : IntKind) (L C : Int) (n : Nat) (hs : a.eval s = .int kl L) (hx : a.eval x = .int kc C) (hL : L = (n : Int)) (hC : C = (n : Int))
    (hb : n * bytes ≤ 281474976710656) (hn : n ≤ 9223372036854775807) (hbase : base ≤ w.heap.size)
    (h : ∀ w', Row w' base e size (.slice (some ⟨w.heap.size, 0, none⟩) n n) n (madeCells z.cells (n * size)).toList → w.grownBy w' none → wpList P ops Q rest (a.put o.dst (.slice (some ⟨w.heap.size, 0, none⟩) n n)) w') : wpList P ops Q (o :: rest) a w := by
  obtain ⟨i, hi, hz, hsz, hby⟩ := E.hi
  exact wpList_make_full w hgd s x t ho base e i z size E.ht hi hz hsz kl kc L C n hs hx hL hC (by rw [hby, Nat.mul_comm]; exact hb) (by unfold maxLen; omega) hbase h

theorem splice_take {α : Type} (L : List α) (m j : Nat) (news : List α) (h : j + news.length ≤ m) (hm : m ≤ L.length) :
    (L.take j ++ news ++ L.drop (j + news.length)).take m = (L.take m).take j ++ news ++ (L.take m).drop (j + news.length) := by
  have e1 : (L.take j ++ news).length = j + news.length := by rw [List.length_append, List.length_take]; omega
  rw [List.take_append, List.take_of_length_le (by omega), e1, List.drop_take, List.take_take, Nat.min_eq_left (by omega)]

/-- a store into a row of the call's own -/
theorem store_row {P : Program} {w : World} {ops : Array Oper} {rest : List Oper} {o : Oper} {a : Act} {Q : Exit → Act → World → Prop} (hgd : o.guard = none) (ty : TypeId) (x y : Operand) (ho : o.op = .store ty x y)
    (g j : Nat) (hx : a.eval x = .pointer (some ⟨g, j, none⟩)) (u : Value) (hy : a.eval y = u) (news : List Value) (hn : u.cells.toList = news) (hi : (P.info? ty).map (·.size) = some news.length) (h1 : ∀ v ∈ news, v.oneCell' = true)
    (base : Nat) (e : TypeId) (size n cap : Nat) (xs : List Value) (hown : Row w base e size (.slice (some ⟨g, 0, none⟩) n cap) n xs) (hj : j + news.length ≤ xs.length)
    (h : ∀ w', Row w' base e size (.slice (some ⟨g, 0, none⟩) n cap) n (xs.take j ++ news ++ xs.drop (j + news.length)) → w.grownBy w' (some g) → wpList P ops Q rest (a.put o.dst undef) w') : wpList P ops Q (o :: rest) a w := by
  refine wpList_plain hgd fun K hK => ?_
  rcases hown.2 with ⟨hv, _⟩ | ⟨g', cap', cur, hv, hbg, hg, hnc, hcm, hcs, htake⟩
  · cases hv
  · cases hv
    have hxl := hown.1
    have hle : n * size ≤ cap * size := Nat.mul_le_mul_right _ hnc
    have hst := run_storeCells_at P g j e news 0 cur w hg (by omega) h1
    simp only [Nat.add_zero] at hst
    have hrow : (w.setRow g (cur.toList.take j ++ news ++ cur.toList.drop (j + news.length)).toArray).heap[g]? = _ := setRow_heap w g cur _ e _ hg
    refine (?_ : Oper.wp P o a w K Q)
    cases hq : P.info? ty with
    | none => simp [hq] at hi
    | some i =>
      have hs : i.size = news.length := by simpa [hq] using hi
      have hc : u.cells = news.toArray := by rw [← hn]
      unfold Oper.wp execOp
      have hrun : (storeVar ty ⟨g, j, none⟩ u).run P w = .ok () (w.setRow g (cur.toList.take j ++ news ++ cur.toList.drop (j + news.length)).toArray) := by
        simp [storeVar, sizeOf, typeInfo, hq, hc, hs, hst]
      simp only [ho, hx, hy, Instr.storeAt, Instr.sureAddr, Sem.run_bind, Sem.run_pure, Result.andThen_ok, hrun]
      refine hK _ _ (h _ ⟨by simp; omega, .inr ⟨g, cap, _, rfl, hbg, hrow, hnc, hcm, by simp; omega, ?_⟩⟩ ⟨rfl, rfl, rfl, by simp, fun k _ hk => setRow_other w g k _ (fun e => hk (by simp [e]))⟩)
      subst htake
      exact splice_take cur.toList (n * size) j news (by omega) (by rw [Array.length_toList]; omega)

end Go.Proofs.Ytacfhfeegalmlaa

/- GENERIC LAWS, over any program: what a call may have written ('Fr'), and what stands besides; append, with where the new row lies. -/
namespace Go.Proofs.Ytacfhfeegalmlaa
open Go.RowKit
set_option linter.unusedVariables false
set_option linter.unusedSimpArgs false

/-- what stood outside S is as it was -/
structure Fr (S : Nat → Prop) (w w' : World) : Prop where
  os : w'.os = w.os
  tape : w'.tape = w.tape
  output : w'.output = w.output
  size : w.heap.size ≤ w'.heap.size
  block : ∀ i, i < w.heap.size → ¬ S i → w'.heap[i]? = w.heap[i]?

theorem Fr.refl (S : Nat → Prop) (w : World) : Fr S w w := ⟨rfl, rfl, rfl, Nat.le_refl _, fun _ _ _ => rfl⟩
theorem Fr.then {S S' : Nat → Prop} {a b c : World} (h : Fr S a b) (k : Fr S' b c) (hs : ∀ i, S' i → S i ∨ a.heap.size ≤ i) : Fr S a c :=
  ⟨k.os.trans h.os, k.tape.trans h.tape, k.output.trans h.output, Nat.le_trans h.size k.size, fun i hi hn => (k.block i (Nat.lt_of_lt_of_le hi h.size) (fun h2 => by rcases hs i h2 with h3 | h3; exact hn h3; omega)).trans (h.block i hi hn)⟩
theorem Fr.trans {S : Nat → Prop} {a b c : World} (h : Fr S a b) (k : Fr S b c) : Fr S a c := h.then k fun _ h => .inl h
theorem Fr.mono {S T : Nat → Prop} {a b : World} (h : Fr S a b) (hs : ∀ i, S i → T i) : Fr T a b := ⟨h.os, h.tape, h.output, h.size, fun i hi hn => h.block i hi fun h2 => hn (hs i h2)⟩
theorem Fr.of_below {S : Nat → Prop} {a b : World} (h : Below a.heap.size a b) : Fr S a b := ⟨h.os, h.tape, h.output, h.size, fun i hi _ => h.block i hi⟩
theorem Fr.of_grown {S : Nat → Prop} {a b : World} {row : Option Nat} (h : a.grownBy b row) (hr : ∀ k, row = some k → S k) : Fr S a b :=
  ⟨h.os, h.tape, h.output, h.size, fun i hi hn => h.block i hi fun e => hn (hr i e.symm)⟩
theorem Fr.setCell {S : Nat → Prop} {a b : World} (h : Fr S a b) {p : Addr} (hp : S p.block) (u : Value) : Fr S a (b.setCell p u) :=
  h.trans ⟨rfl, rfl, rfl, by simp [World.setCell], fun k _ hn => Below.heap_setCell _ _ _ _ (fun e => hn (e ▸ hp))⟩
theorem Fr.alloc {S : Nat → Prop} {a b : World} (h : Fr S a b) (o : Obj) : Fr S a (b.alloc o) := h.trans (.of_below (below_alloc _ _))
theorem Fr.drew {S : Nat → Prop} {a b : World} (h : Fr S a b) : Fr S a b.drew := ⟨h.os, h.tape, h.output, h.size, h.block⟩
theorem Fr.cell {S : Nat → Prop} {a b : World} (h : Fr S a b) {x : Addr} {v : Value} (hc : a.cell? x = some v) (hn : ¬ S x.block) : b.cell? x = some v :=
  (World.cell?_of_block (w := a) (h.block x.block (World.block_lt_of_cell? a _ hc) hn)).trans hc
theorem Fr.frozen {S : Nat → Prop} {a b : World} (h : Fr S a b) {x : Addr} (hl : x.block < a.heap.size) (hn : ¬ S x.block) : b.frozen? x = a.frozen? x :=
  World.frozen?_of_block (w := a) (h.block x.block hl hn)
theorem Fr.below {S : Nat → Prop} {a b : World} (h : Fr S a b) {B : Nat} (hs : ∀ i, S i → B ≤ i) (hB : B ≤ a.heap.size) : Below B a b :=
  ⟨h.os, h.tape, h.output, h.size, fun i hi => h.block i (by omega) fun h2 => by have := hs i h2; omega⟩

/-- a readable list of integers, in blocks of T -/
structure RdF (w : World) (T : Nat → Prop) (k : IntKind) (a : Option Addr) (n : Nat) (l : List Int) : Prop where
  rd : Rd w k a n l
  foot : ∀ x, a = some x → 0 < n → T x.block
theorem RdF.fr {w w' : World} {S T : Nat → Prop} {k a n l} (h : RdF w T k a n l) (hf : Fr S w w') (hd : ∀ i, T i → ¬ S i) : RdF w' T k a n l :=
  ⟨⟨h.rd.len, h.rd.max, fun i hi => by
    obtain ⟨b, off, ha, hc⟩ := h.rd.cell i hi
    exact ⟨b, off, ha, hf.cell hc (hd b (h.foot _ ha (by omega)))⟩, h.rd.wf⟩, h.foot⟩
theorem RdF.below {w w' : World} {T : Nat → Prop} {k a n l} (h : RdF w T k a n l) (hb : Below w.heap.size w w') : RdF w' T k a n l := ⟨h.rd.below hb, h.foot⟩
theorem RdF.mono {w : World} {T T' : Nat → Prop} {k a n l} (h : RdF w T k a n l) (hT : ∀ i, T i → T' i) : RdF w T' k a n l := ⟨h.rd, fun x hx hn => hT _ (h.foot x hx hn)⟩
theorem RdF.lt {w : World} {T : Nat → Prop} {k a n l} (h : RdF w T k a n l) : RdF w (fun i => T i ∧ i < w.heap.size) k a n l :=
  ⟨h.rd, fun x hx hn => ⟨h.foot x hx hn, h.rd.lt x hx hn⟩⟩

theorem Row.fr {w w' : World} {S : Nat → Prop} {base e size v n xs} (h : Row w base e size v n xs) (hf : Fr S w w') (hd : ∀ g, v.ownBlock = some g → ¬ S g) : Row w' base e size v n xs := by
  refine ⟨h.1, ?_⟩
  rcases h.2 with hn | ⟨g, cap, cur, rfl, hbb, hgg, rest⟩
  · exact .inl hn
  · exact .inr ⟨g, cap, cur, rfl, hbb, by rw [hf.block g (Array.getElem?_eq_some_iff.1 hgg).1 (hd g rfl)]; exact hgg, rest⟩
theorem Row.block_lt {w : World} {base e size v n xs g} (h : Row w base e size v n xs) (hg : v.ownBlock = some g) : g < w.heap.size ∧ base ≤ g := by
  rcases h.2 with ⟨rfl, _⟩ | ⟨g', cap, cur, rfl, hbb, hgg, rest⟩
  · cases hg
  · cases hg; exact ⟨(Array.getElem?_eq_some_iff.1 hgg).1, hbb⟩

/-- append of readable cells to a row of the call's own: where the new row lies is told -/
theorem app_row_at {P : Program} {w : World} {ops : Array Oper} {rest : List Oper} {o : Oper} {a : Act} {Q : Exit → Act → World → Prop} (s x : Operand) {t e : TypeId} {z : Value} {size bytes : Nat} (E : EltG P t e z size bytes)
    (hgd : o.guard = none) (ho : o.op = .call { callee := .builtin .append, args := #[s, x], argTypes := #[t, t] })
    (base : Nat) (v : Value) (n : Nat) (xs : List Value) (hs : a.eval s = v) (hown : Row w base e size v n xs) (ad : Option Addr) (m c : Nat) (news : List Value) (hx : a.eval x = .slice ad m c) (hr : RdG w size ad m news) (h1 : ∀ u ∈ news, u.oneCell' = true)
    (hlen : (n + m) * bytes ≤ 140737488355328) (hpos : 0 < bytes) (hbase : base ≤ w.heap.size)
    (h : ∀ a' c' w', Row w' base e size (.slice a' (n + m) c') (n + m) (xs ++ news) → w.grownBy w' v.ownBlock → ((Value.slice a' (n + m) c').ownBlock = v.ownBlock ∨ (Value.slice a' (n + m) c').ownBlock = some w.heap.size) → wpList P ops Q rest (a.put o.dst (.slice a' (n + m) c')) w') : wpList P ops Q (o :: rest) a w := by
  obtain ⟨i, hi, hz, hsz, hby⟩ := E.hi
  have hb2 : (n + m) ≤ 140737488355328 := Nat.le_trans (Nat.le_mul_of_pos_right _ hpos) hlen
  cases ad with
  | some ad =>
    refine wpList_append_own_at w hgd s x t ho base e i z size bytes E.ht hi hz hsz hby E.hz E.h0 v n xs hs hown ad m c news hx hr.len hr.news h1 (by unfold maxLen; omega) hlen hbase ?_
    intro v' w' ho' hg' _ hat
    obtain ⟨a', c', rfl⟩ := Row.form ho'
    exact h a' c' w' ho' hg' hat
  | none =>
    have hl0 : news = [] := by
      cases news with
      | nil => rfl
      | cons u r => obtain ⟨b, off, ha, _⟩ := hr.cell 0 u rfl; cases ha
    subst hl0
    have h0 : m = 0 := by
      have := hr.len
      have h3 := E.h0
      simp only [List.length_nil] at this
      rcases Nat.mul_eq_zero.1 this.symm with h4 | h4 <;> omega
    subst h0
    refine wpList_plain hgd fun K hK' => ?_
    have hrun : (Builtin.append_ #[t, t] o.type #[v, .slice none 0 c]).run P w = .ok v w := by
      rcases hown.2 with ⟨rfl, h0⟩ | ⟨g, cap, cur, rfl, _, _, hnc, _⟩
      · simp [Builtin.append_, run_underlying E.ht, sizeOf, typeInfo, hi, Builtin.lenOf, Builtin.firstCells]
      · simp [Builtin.append_, run_underlying E.ht, sizeOf, typeInfo, hi, Builtin.lenOf, Builtin.firstCells, hnc, storeCells]
    unfold Oper.wp
    simp [execOp, ho, resolve, invoke, builtin, hs, hx, hrun, Result.andThen]
    obtain ⟨a', c', rfl⟩ := Row.form hown
    refine hK' _ _ ?_
    have := h a' c' w (by simpa using hown) (World.grownBy.refl _ _) (.inl rfl)
    simpa using this

/-- the same at a step of a region that draws its order -/
theorem step_app_row_at {P : Program} {w : World} {ops : Array Oper} {o : Oper} {a : Act} {K : Act → World → Prop} {Q : Exit → Act → World → Prop} {G : Prop} (s x : Operand) {t e : TypeId} {z : Value} {size bytes : Nat} (E : EltG P t e z size bytes)
    (hgd : o.guard = none) (ho : o.op = .call { callee := .builtin .append, args := #[s, x], argTypes := #[t, t] })
    (base : Nat) (v : Value) (n : Nat) (xs : List Value) (hs : a.eval s = v) (hown : Row w base e size v n xs) (ad : Option Addr) (m c : Nat) (news : List Value) (hx : a.eval x = .slice ad m c) (hr : RdG w size ad m news) (h1 : ∀ u ∈ news, u.oneCell' = true)
    (hlen : (n + m) * bytes ≤ 140737488355328) (hpos : 0 < bytes) (hbase : base ≤ w.heap.size)
    (h : ∀ a' c' w', Row w' base e size (.slice a' (n + m) c') (n + m) (xs ++ news) → w.grownBy w' v.ownBlock → ((Value.slice a' (n + m) c').ownBlock = v.ownBlock ∨ (Value.slice a' (n + m) c').ownBlock = some w.heap.size) → K (a.put o.dst (.slice a' (n + m) c')) w') : if Region.wanted o (yielded ops a.tmps) = true then Oper.wp P o a w K Q else G := by
  have hw : Region.wanted o (yielded ops a.tmps) = true := by simp [Region.wanted, hgd]
  rw [if_pos hw]
  obtain ⟨i, hi, hz, hsz, hby⟩ := E.hi
  have hb2 : (n + m) ≤ 140737488355328 := Nat.le_trans (Nat.le_mul_of_pos_right _ hpos) hlen
  cases ad with
  | some ad =>
    obtain ⟨v', w', hrun, ho', hg', _, hat⟩ := run_append_own_at (P := P) w base t o.type e i z size bytes E.ht hi hz hsz hby E.hz E.h0 v n xs hown ad m c news hr.len hr.news h1 (by unfold maxLen; omega) hlen hbase
    obtain ⟨a', c', rfl⟩ := Row.form ho'
    unfold Oper.wp execOp
    simp only [ho, resolve, invoke, builtin, Sem.run_bind, Sem.run_pure, Result.andThen_ok, List.map_toArray, List.map_cons, List.map_nil, hs, hx, hrun]
    exact h a' c' w' ho' hg' hat
  | none =>
    have hl0 : news = [] := by
      cases news with
      | nil => rfl
      | cons u r => obtain ⟨b, off, ha, _⟩ := hr.cell 0 u rfl; cases ha
    subst hl0
    have h0 : m = 0 := by
      have := hr.len
      have h3 := E.h0
      simp only [List.length_nil] at this
      rcases Nat.mul_eq_zero.1 this.symm with h4 | h4 <;> omega
    subst h0
    have hrun : (Builtin.append_ #[t, t] o.type #[v, .slice none 0 c]).run P w = .ok v w := by
      rcases hown.2 with ⟨rfl, h0⟩ | ⟨g, cap, cur, rfl, _, _, hnc, _⟩
      · simp [Builtin.append_, run_underlying E.ht, sizeOf, typeInfo, hi, Builtin.lenOf, Builtin.firstCells]
      · simp [Builtin.append_, run_underlying E.ht, sizeOf, typeInfo, hi, Builtin.lenOf, Builtin.firstCells, hnc, storeCells]
    unfold Oper.wp execOp
    simp only [ho, resolve, invoke, builtin, Sem.run_bind, Sem.run_pure, Result.andThen_ok, List.map_toArray, List.map_cons, List.map_nil, hs, hx, hrun]
    obtain ⟨a', c', rfl⟩ := Row.form hown
    have := h a' c' w (by simpa using hown) (World.grownBy.refl _ _) (.inl rfl)
    simpa [Oper.upon] using this

theorem set_same {w : World} {a : Addr} {u v : Value} (h : w.cell? a = some u) : (w.setCell a v).cell? a = some v := World.cell?_setCell_same' w a v (by rw [h]; rfl)
theorem set_other {w : World} {a b : Addr} {u v : Value} (hne : a ≠ b) (h : w.cell? b = some u) : (w.setCell a v).cell? b = some u := by
  have := World.cell?_setCell_other (w := w) (a := a) (b := b) (v := v) hne
  rw [this]; exact h
theorem RdG.drew {w : World} {size a n xs} (h : RdG w size a n xs) : RdG w.drew size a n xs := ⟨h.len, h.cell⟩
theorem Row.drew {w : World} {base e size v n xs} (h : Row w base e size v n xs) : Row w.drew base e size v n xs := h
theorem Row.alloc {w : World} {base e size v n xs} (h : Row w base e size v n xs) (o : Obj) : Row (w.alloc o) base e size v n xs := World.ownsRow.alloc h o

theorem heap_new_at {w : World} {o : Obj} {k : Nat} (hk : k = w.heap.size) : (w.alloc o).heap[k]? = some o := by subst hk; exact heap_alloc_new w o
theorem heap_new_at2 {w : World} {o o2 : Obj} {k : Nat} (hk : k = w.heap.size) : ((w.alloc o).alloc o2).heap[k]? = some o := (Below.heap_alloc _ _ _ (by subst hk; simp)).trans (heap_new_at hk)

theorem row_block {w : World} {g : Nat} {e : TypeId} {size : Nat} (h : w.heap[g]? = some (.cells #[] e (0, 0))) : Row w 0 e size (.slice (some ⟨g, 0, none⟩) 0 0) 0 [] :=
  ⟨by simp, .inr ⟨g, 0, #[], rfl, Nat.zero_le _, h, Nat.le_refl _, Nat.zero_le _, by simp, by simp⟩⟩
theorem rdG_block {w : World} {g : Nat} {e : TypeId} {size n : Nat} {cs : Array Value} (h : w.heap[g]? = some (.cells cs e (0, 0))) (hl : cs.size = n * size) : RdG w size (some ⟨g, 0, none⟩) n cs.toList :=
  ⟨by simpa using hl, fun j u hu => ⟨g, 0, rfl, by rw [Nat.zero_add]; simp only [World.cell?, h]; simpa using hu⟩⟩

end Go.Proofs.Ytacfhfeegalmlaa

/- structs in a block of their own: what its cells hold, and that they may be written; results that are read out of such a block. -/
namespace Go.Proofs.Ytacfhfeegalmlaa
open Go.RowKit
set_option linter.unusedVariables false
set_option linter.unusedSimpArgs false

/-- block b holds the values cs, and may be written -/
structure BX (w : World) (b : Nat) (cs : List Value) : Prop where
  rng : w.rangeAt b 0 cs
  fz : ∀ j, w.frozen? ⟨b, j, none⟩ = false
  lt : b < w.heap.size

theorem BX.cell {w : World} {b : Nat} {cs : List Value} (h : BX w b cs) {j : Nat} {v : Value} (hj : cs[j]? = some v) : w.cell? ⟨b, j, none⟩ = some v := by
  have := h.rng j v hj
  rwa [Nat.zero_add] at this
theorem BX.fr {w w' : World} {b : Nat} {cs : List Value} {S : Nat → Prop} (h : BX w b cs) (hf : Fr S w w') (hn : ¬ S b) : BX w' b cs :=
  ⟨fun j v hj => hf.cell (h.rng j v hj) hn, fun j => (hf.frozen (x := ⟨b, j, none⟩) h.lt hn).trans (h.fz j), Nat.lt_of_lt_of_le h.lt hf.size⟩
theorem BX.below {w w' : World} {b : Nat} {cs : List Value} (h : BX w b cs) (hb : Below w.heap.size w w') : BX w' b cs :=
  h.fr (S := fun _ => False) (.of_below hb) (fun h => h)
theorem BX.drew {w : World} {b : Nat} {cs : List Value} (h : BX w b cs) : BX w.drew b cs := ⟨h.rng, h.fz, h.lt⟩
theorem BX.alloc (w : World) (cs : List Value) (t : TypeId) : BX (w.alloc (.cells cs.toArray t)) w.heap.size cs :=
  ⟨fun j v hj => by
    rw [Nat.zero_add]
    simp only [World.cell?, heap_new_at rfl]
    simpa using hj, fun j => by simp only [World.frozen?, heap_new_at rfl]; simp, by simp⟩
theorem BX.alloc2 (w : World) (cs : List Value) (t : TypeId) (o : Obj) : BX ((w.alloc (.cells cs.toArray t)).alloc o) w.heap.size cs := (BX.alloc w cs t).below (below_alloc _ _)
theorem BX.allocAt {w : World} {b : Nat} (hb : b = w.heap.size) (cs : List Value) (t : TypeId) : BX (w.alloc (.cells cs.toArray t)) b cs := by subst hb; exact BX.alloc w cs t
theorem BX.there {w : World} {b : Nat} {cs : List Value} (h : BX w b cs) (o n : Nat) (hn : o + n ≤ cs.length) : w.there b o n := fun j hj => by
  obtain ⟨v, hv⟩ : ∃ v, cs[o + j]? = some v := ⟨_, List.getElem?_eq_getElem (by omega)⟩
  exact ⟨by rw [h.cell hv]; rfl, h.fz _⟩
/-- a part of it -/
theorem BX.sub {w : World} {b : Nat} {cs : List Value} (h : BX w b cs) (p q r : List Value) (hc : cs = p ++ q ++ r) : w.rangeAt b p.length q := fun j v hj => by
  have hjl : j < q.length := (List.getElem?_eq_some_iff.1 hj).1
  refine h.cell ?_
  rw [hc, List.append_assoc, List.getElem?_append_right (by omega), List.getElem?_append_left (by omega)]
  rw [← hj]; congr 1; omega
theorem BX.all {w : World} {b : Nat} {cs : List Value} (h : BX w b cs) : w.rangeAt b 0 cs := h.rng

theorem frSetCells (b : Nat) : ∀ (vs : List Value) (o : Nat) (w : World), Fr (fun i => i = b) w (w.setCells b o vs)
  | [], _, w => Fr.refl _ w
  | v :: vs, o, w => by
    show Fr _ w ((w.setCell ⟨b, o, none⟩ v).setCells b (o + 1) vs)
    exact (Fr.setCell (S := fun i => i = b) (Fr.refl _ w) (p := ⟨b, o, none⟩) rfl v).trans (frSetCells b vs (o + 1) _)
theorem frozen_setCells (b : Nat) : ∀ (vs : List Value) (o : Nat) (w : World) (a : Addr), (w.setCells b o vs).frozen? a = w.frozen? a
  | [], _, w, a => rfl
  | v :: vs, o, w, a => by
    show ((w.setCell ⟨b, o, none⟩ v).setCells b (o + 1) vs).frozen? a = _
    rw [frozen_setCells b vs (o + 1) _ a, World.frozen?_setCell]
theorem cell_setCells_out (b : Nat) : ∀ (vs : List Value) (o : Nat) (w : World) (j : Nat), j < o ∨ o + vs.length ≤ j → (w.setCells b o vs).cell? ⟨b, j, none⟩ = w.cell? ⟨b, j, none⟩
  | [], _, w, j, _ => rfl
  | v :: vs, o, w, j, h => by
    show ((w.setCell ⟨b, o, none⟩ v).setCells b (o + 1) vs).cell? ⟨b, j, none⟩ = _
    rw [cell_setCells_out b vs (o + 1) _ j (by simp only [List.length_cons] at h; omega)]
    exact World.cell?_setCell_other _ _ _ _ (fun e => by have := (Addr.mk.inj e).2.1; simp only [List.length_cons] at h; omega)
/-- a part of it is written -/
theorem BX.put {w : World} {b : Nat} {p q r : List Value} (h : BX w b (p ++ q ++ r)) (q' : List Value) (hl : q'.length = q.length) : BX (w.setCells b p.length q') b (p ++ q' ++ r) := by
  refine ⟨fun j v hj => ?_, fun j => by rw [frozen_setCells]; exact h.fz j, Nat.lt_of_lt_of_le h.lt (frSetCells b q' p.length w).size⟩
  rw [Nat.zero_add]
  by_cases h1 : j < p.length
  · rw [cell_setCells_out _ _ _ _ _ (.inl h1)]
    refine h.cell ?_
    rw [List.append_assoc, List.getElem?_append_left h1] at hj ⊢
    exact hj
  · by_cases h2 : j < p.length + q'.length
    · rw [List.append_assoc, List.getElem?_append_right (by omega), List.getElem?_append_left (by omega)] at hj
      have := World.rangeAt_setCells_same w b p.length q' (h.there _ _ (by simp; omega)) (j - p.length) v hj
      rwa [show p.length + (j - p.length) = j by omega] at this
    · rw [cell_setCells_out _ _ _ _ _ (.inr (by omega))]
      refine h.cell ?_
      rw [List.append_assoc, List.getElem?_append_right (by omega), List.getElem?_append_right (by omega)] at hj ⊢
      rw [← hj, hl]
theorem BX.putAll {w : World} {b : Nat} {q : List Value} (h : BX w b q) (q' : List Value) (hl : q'.length = q.length) : BX (w.setCells b 0 q') b q' := by
  have := BX.put (p := []) (q := q) (r := []) (by simpa using h) q' hl
  simpa using this
theorem BX.set1 {w : World} {b : Nat} {cs : List Value} (h : BX w b cs) {j : Nat} (hj : j < cs.length) (v : Value) : BX (w.setCell ⟨b, j, none⟩ v) b (cs.set j v) := by
  refine ⟨fun i u hi => ?_, fun i => by rw [World.frozen?_setCell]; exact h.fz i, Nat.lt_of_lt_of_le h.lt (Fr.setCell (S := fun i => i = b) (Fr.refl _ w) (p := ⟨b, j, none⟩) rfl v).size⟩
  rw [Nat.zero_add]
  obtain ⟨x, hx⟩ : ∃ x, cs[j]? = some x := ⟨_, List.getElem?_eq_getElem hj⟩
  by_cases e : i = j
  · subst e
    rw [List.getElem?_set_self hj] at hi
    rw [set_same (h.cell hx), ← hi]
  · rw [List.getElem?_set_ne (Ne.symm e)] at hi
    exact set_other (fun h => e ((Addr.mk.inj h).2.1).symm) (h.cell hi)
theorem belowSetCells {B : Nat} {a w : World} {b : Nat} (h : Below B a w) (hb : B ≤ b) (o : Nat) (vs : List Value) (hB : B ≤ w.heap.size) : Below B a (w.setCells b o vs) :=
  h.trans ((frSetCells b vs o w).below (fun i hi => by rw [hi]; exact hb) hB)

/-- a result that is a struct in a block -/
theorem res_cell {P : Program} {fn : Func} {p : Tmp} {ty : TypeId} (h : fn.results = #[.cell p ty]) (tmps : Array Value) (w : World) (b : Nat) (cs : List Value) (d : TypeDesc) (hp : tmps.getD p undef = .pointer (some ⟨b, 0, none⟩)) (hr : w.rangeAt b 0 cs)
    (hu : P.underlying ty = some d) (hd : d.isRow = true) (hi : (P.info? ty).map (·.size) = some cs.length) : (results fn tmps).run P w = .ok (.agg cs.toArray) w := by
  have hload := run_loadVar_mid (P := P) w b 0 ty cs d hr hu hd hi
  have h2 : (results fn tmps).run P w = ((asAddr (tmps.getD p undef)).run P w).andThen fun a w₁ => (loadVar ty a).run P w₁ := by
    simp only [results, h]
    simp [Sem.run_bind, Result.andThen]
  rw [h2, hp]
  simp [asAddr, Result.andThen, hload]
theorem res_cell_tmp {P : Program} {fn : Func} {p u : Tmp} {ty : TypeId} (h : fn.results = #[.cell p ty, .tmp u]) (tmps : Array Value) (w : World) (b : Nat) (cs : List Value) (d : TypeDesc) (hp : tmps.getD p undef = .pointer (some ⟨b, 0, none⟩)) (hr : w.rangeAt b 0 cs)
    (hu : P.underlying ty = some d) (hd : d.isRow = true) (hi : (P.info? ty).map (·.size) = some cs.length) : (results fn tmps).run P w = .ok (.tuple #[.agg cs.toArray, tmps.getD u undef]) w := by
  have hload := run_loadVar_mid (P := P) w b 0 ty cs d hr hu hd hi
  rw [results_cell_tmp h, hp]
  simp [asAddr, Result.andThen, hload]

end Go.Proofs.Ytacfhfeegalmlaa

/- WHAT ONE GOROUTINE KNOWS AND OWNS, AND ITS STEPS IN COMPANY. A goroutine's knowledge: cells that stand for ever, blocks of its own, own cells of a shared row. The judgement GK: on its way to a stop, from every world that fits what it knows. Rules of control. -/
namespace Go.Proofs.Ytacfhfeegalmlaa
open Go.Conc
set_option linter.unusedVariables false
set_option linter.unusedSimpArgs false

/-- WHAT A CALL OF Run IS ABOUT: how many jobs, the channels of 'executed', blocks that matter, the jobs, what the box held. -/
structure RunC where
  n : Nat
  ex : Nat → Nat
  blk : Nat → Nat
  jobs : List (List ByteArray × List (ByteArray × Int) × Int)
  ents : List (ByteArray × Int)
/-- Where a worker stands: it has no job; it has job j (and has come to its turn or not). -/
inductive WSt where
  | idle
  | job (j : Nat) (tok : Bool)
/-- WHERE A GOROUTINE STANDS IN THE WHOLE. b: how many it may still start. -/
inductive Gh where
  | lone (b : Nat)
  | run (X : RunC) (b : Nat)
  | par (X : RunC) (q wg m s b : Nat)
  | shut (X : RunC) (q wg m B b : Nat)
  | reg (X : RunC) (q wg m b : Nat)
  | fin (X : RunC) (q wg m b : Nat)
  | wk (X : RunC) (q wg left : Nat) (st : WSt)
  | wkf (X : RunC) (q wg : Nat)

structure Kn where
  ro : Addr → Option Value
  own : Nat → Option Obj
  oc : Addr → Option Value
  /-- how often it has said 'disable' and not yet 'enable' -/
  deaf : Nat
  /-- this block is a WaitGroup that others turn too -/
  live : Option (Nat × TypeId)
  gh : Gh
/-- what is the same for all the program's run: the protocol of the token, and what is asked of a child -/
structure Who where
  main : Bool
  Tok : RunC → Nat → Kn → Prop
  Pub : RunC → Nat → (Addr → Option Value) → Prop
  Kid : Kn → Goroutine → Prop
  wgT : TypeId

/-- The world fits, and no place is named twice. -/
structure Kn.Sat (k : Kn) (w : World) : Prop where
  ro : ∀ a v, k.ro a = some v → w.cell? a = some v
  own : ∀ b o, k.own b = some o → w.heap[b]? = some o
  oc : ∀ a v, k.oc a = some v → w.cell? a = some v ∧ w.frozen? a = false
  ro_own : ∀ a v, k.ro a = some v → k.own a.block = none
  oc_own : ∀ a v, k.oc a = some v → k.own a.block = none
  oc_ro : ∀ a v, k.oc a = some v → k.ro a = none
  live : ∀ b t, k.live = some (b, t) → (k.own b = none ∧ ∀ a v, k.oc a = some v → a.block ≠ b) ∧ ∃ st sm, Go.ConcR.WgAt t b w st sm

/-- What may be listed: a touch of what is one's own, or new (n: the heap's size ahead of the step); a read of what stands. -/
def Kn.Lets (k : Kn) (n : Nat) (e : Event) : Prop :=
  match e.loc with
  | .cell a => k.own a.block ≠ none ∨ k.oc a ≠ none ∨ (e.write = false ∧ k.ro a ≠ none) ∨ n ≤ a.block
  | .obj r => e.sync = false ∧ (k.own r ≠ none ∨ n ≤ r)
  | .mark (.extern _) | .mark .noRoom => True
  | .mark (.read a) | .mark (.write a) => k.own a.block ≠ none ∨ n ≤ a.block
  | _ => False

/-- What is named is there. -/
def lowE (n : Nat) (e : Event) : Prop :=
  match e.loc with
  | .cell a | .mark (.read a) | .mark (.write a) => a.block < n
  | .obj r => r < n
  | _ => True
theorem lowE.mono {n n' : Nat} {e : Event} (h : lowE n e) (hn : n ≤ n') : lowE n' e := by
  unfold lowE at *
  split <;> simp_all <;> omega

structure Kn.Step (k k' : Kn) (w w' : World) (es : Array Event) : Prop where
  sat : k'.Sat w'
  size : w.heap.size ≤ w'.heap.size
  far : ∀ b, b < w.heap.size → k.own b = none → (∀ a v, k.oc a = some v → a.block ≠ b) → w'.heap[b]? = w.heap[b]?
  row : ∀ a, k.own a.block = none → k.oc a = none → a.block < w.heap.size → w'.cell? a = w.cell? a ∧ w'.frozen? a = w.frozen? a
  os : w'.os = w.os
  tape : w'.tape = w.tape
  output : w'.output = w.output
  evs : ∀ e ∈ es, k.Lets w.heap.size e ∧ lowE w'.heap.size e
  own : ∀ b, k'.own b ≠ none → k.own b ≠ none ∨ w.heap.size ≤ b
  roK : ∀ a v, k.ro a = some v → k'.ro a = some v
  roN : ∀ a, k'.ro a ≠ none → k.ro a ≠ none ∨ k.own a.block ≠ none ∨ w.heap.size ≤ a.block
  oc : ∀ a, k'.oc a ≠ none → k.oc a ≠ none
  deaf : k'.deaf = k.deaf
  live : k'.live = k.live
  gh : k'.gh = k.gh

theorem Kn.idle {k : Kn} {w : World} (h : k.Sat w) : k.Step k w w #[] :=
  ⟨h, Nat.le_refl _, fun _ _ _ _ => rfl, fun _ _ _ _ => ⟨rfl, rfl⟩, rfl, rfl, rfl, fun e he => by simp at he, fun _ h => .inl h, fun _ _ h => h, fun _ h => .inl h, fun _ h => h, rfl, rfl, rfl⟩
/-- Another count of draws. -/
theorem Kn.Sat.drawn {k : Kn} {w : World} (h : k.Sat w) (d : Nat) : k.Sat { w with drawn := d } := ⟨h.ro, h.own, h.oc, h.ro_own, h.oc_own, h.oc_ro, h.live⟩
theorem Kn.draw {k : Kn} {w : World} (h : k.Sat w) (d : Nat) : k.Step k w { w with drawn := d } #[] :=
  ⟨h.drawn d, Nat.le_refl _, fun _ _ _ _ => rfl, fun _ _ _ _ => ⟨rfl, rfl⟩, rfl, rfl, rfl, fun e he => by simp at he, fun _ h => .inl h, fun _ _ h => h, fun _ h => .inl h, fun _ h => h, rfl, rfl, rfl⟩

/-- What is said to a race detector: words that touch no place. -/
def tameMark : Mark → Bool
  | .disable | .enable | .acquire _ | .releaseMerge _ => true
  | _ => false
def Kn.said (k : Kn) : Mark → Kn
  | .disable => { k with deaf := k.deaf + 1 }
  | .enable => { k with deaf := k.deaf - 1 }
  | _ => k
@[simp] theorem Kn.said_ro (k : Kn) (m : Mark) : (k.said m).ro = k.ro := by cases m <;> rfl
@[simp] theorem Kn.said_own (k : Kn) (m : Mark) : (k.said m).own = k.own := by cases m <;> rfl
@[simp] theorem Kn.said_oc (k : Kn) (m : Mark) : (k.said m).oc = k.oc := by cases m <;> rfl

/-- More stands; one's own is as it was. -/
structure Kn.Grow (k k' : Kn) : Prop where
  ro : ∀ a v, k.ro a = some v → k'.ro a = some v
  own : k'.own = k.own
  oc : k'.oc = k.oc
  deaf : k'.deaf = k.deaf
  live : k'.live = k.live
  gh : k'.gh = k.gh
theorem Kn.Grow.refl (k : Kn) : k.Grow k := ⟨fun _ _ h => h, rfl, rfl, rfl, rfl, rfl⟩
theorem Kn.Grow.trans {k k1 k2 : Kn} (h : k.Grow k1) (h' : k1.Grow k2) : k.Grow k2 := ⟨fun a v x => h'.ro a v (h.ro a v x), h'.own.trans h.own, h'.oc.trans h.oc, h'.deaf.trans h.deaf, h'.live.trans h.live, h'.gh.trans h.gh⟩
/-- What one knows of a cell. -/
def Kn.Has (k : Kn) (a : Addr) (v : Value) : Prop :=
  k.ro a = some v ∨ (∃ c t f, k.own a.block = some (.cells c t f) ∧ a.spot = none ∧ c[a.off]? = some v) ∨ k.oc a = some v
/-- A NEW VIEW of the same: rights are laid down; a cell that was one's own stands from now on. -/
structure Kn.Turn (k k' : Kn) : Prop where
  own : ∀ b o, k'.own b = some o → k.own b = some o
  oc : ∀ a v, k'.oc a = some v → k.oc a = some v ∨ ((∃ c t, k.own a.block = some (.cells c t) ∧ a.spot = none ∧ c[a.off]? = some v) ∧ k'.own a.block = none)
  ocr : ∀ a v, k'.oc a = some v → k'.ro a = none
  roK : ∀ a v, k.ro a = some v → k'.ro a = some v
  roN : ∀ a v, k'.ro a = some v → k.ro a = some v ∨ (k.Has a v ∧ k'.own a.block = none ∧ k'.oc a = none)
  deaf : k'.deaf = k.deaf
  live : k'.live = k.live
  gh : k'.gh = k.gh
/-- Nothing is named twice. -/
structure Kn.Disj (k k' : Kn) : Prop where
  oo : ∀ b, k.own b ≠ none → k'.own b = none
  oro : ∀ a, k.own a.block ≠ none → k'.ro a = none
  ooc : ∀ a, k.own a.block ≠ none → k'.oc a = none
  ro : ∀ a, k'.own a.block ≠ none → k.ro a = none
  roc : ∀ a, k'.own a.block ≠ none → k.oc a = none
  cc : ∀ a, k.oc a ≠ none → k'.oc a = none ∧ k'.ro a = none
  cr : ∀ a, k'.oc a ≠ none → k.ro a = none
  rr : ∀ a v v', k.ro a = some v → k'.ro a = some v' → v = v'
def Kn.join (k k' : Kn) : Kn := { k with ro := fun a => (k.ro a).or (k'.ro a), own := fun b => (k.own b).or (k'.own b), oc := fun a => (k.oc a).or (k'.oc a) }
/-- k is divided into k1 and kt; what stands both know. -/
structure Kn.Split (k k1 kt : Kn) : Prop where
  own1 : ∀ b o, k1.own b = some o → k.own b = some o ∧ kt.own b = none
  ownt : ∀ b o, kt.own b = some o → k.own b = some o
  oc1 : ∀ a v, k1.oc a = some v → k.oc a = some v ∧ kt.oc a = none
  oct : ∀ a v, kt.oc a = some v → k.oc a = some v
  ro1 : k1.ro = k.ro
  rot : kt.ro = k.ro
  deaf : k1.deaf = k.deaf
  live : k1.live = k.live
/-- A channel without a buffer that nothing has passed yet. -/
def chanO : Obj := .chan 0 #[] false 0 0 false
/-- Who may close channel j of 'executed', and where it stands behind that. -/
inductive Closes (k : Kn) (X : RunC) (j : Nat) (k1 kt : Kn) : Gh → Prop
  | main {b : Nat} : k.gh = .lone b → j = 0 → (∀ i, i ≤ X.n → k.own (X.ex i) = some chanO ∧ k1.own (X.ex i) = none ∧ kt.own (X.ex i) = none) → (∀ i i', i ≤ X.n → i' ≤ X.n → X.ex i = X.ex i' → i = i') → Closes k X j k1 kt (.run X b)
  | wk {q wg left i : Nat} : k.gh = .wk X q wg left (.job i true) → j = i + 1 → Closes k X j k1 kt (.wk X q wg left .idle)
def Kn.minus (k : Kn) (q : Nat) : Kn := { k with own := fun x => if x = q then none else k.own x }
/-- A child's knowledge: what stands. -/
def Kn.child (k : Kn) (g : Gh) : Kn := { ro := k.ro, own := fun _ => none, oc := fun _ => none, deaf := 0, live := none, gh := g }

/-- ON THE WAY TO A STOP. -/
inductive GK (P : Program) (main : Who) (Stop : Kn → Goroutine → Prop) : Kn → Goroutine → Prop
  | stop {k : Kn} {g : Goroutine} : Stop k g → GK P main Stop k g
  | step {k : Kn} {g : Goroutine} (nx : World → Kn) : g.status = .running →
      (∀ w, k.Sat w → (stepG P main.main g w).goes fun _ w' es => k.Step (nx w) w w' es) →
      (∀ w g' w' es, k.Sat w → stepG P main.main g w = .go g' w' es → GK P main Stop (nx w) g') → GK P main Stop k g
  | mark {k : Kn} {g g' : Goroutine} (m : Mark) : tameMark m = true → g.status = .running → (∀ w, stepG P main.main g w = .go g' w #[⟨.mark m, false, true⟩]) → GK P main Stop (k.said m) g' → GK P main Stop k g
  | turn {k k1 : Kn} {g : Goroutine} : k.Turn k1 → GK P main Stop k1 g → GK P main Stop k g
  | recvE {k : Kn} {g : Goroutine} (X : RunC) (q wg left i j : Nat) (z : Value) : k.gh = .wk X q wg left (.job i false) → j ≤ i → k.deaf = 0 → g.status = .running →
      (∀ w, k.Sat w → stepG P main.main g w = .comm g #[rcase (X.ex j) z] true (.recv false) w #[]) →
      (∀ k', k.Grow k' → main.Pub X j k'.ro → GK P main Stop k' (Go.Conc.served g z)) → GK P main Stop k g
  | recvT {k : Kn} {g : Goroutine} (X : RunC) (q wg left i : Nat) (z : Value) : k.gh = .wk X q wg left (.job i false) → k.deaf = 0 → g.status = .running →
      (∀ w, k.Sat w → stepG P main.main g w = .comm g #[rcase (X.ex i) z] true (.recv false) w #[]) →
      (∀ kt, main.Tok X i kt → k.Disj kt → GK P main Stop { k.join kt with gh := .wk X q wg left (.job i true) } (Go.Conc.served g z)) → GK P main Stop k g
  | closeE {k k1 kt : Kn} {g g' : Goroutine} (X : RunC) (j : Nat) (gh' : Gh) : Closes k X j k1 kt gh' → k.deaf = 0 → g.status = .running → mayWake P g = true → k.Split k1 kt → main.Tok X j kt → main.Pub X j k.ro →
      (∀ w, k.Sat w → w.heap[X.ex j]? = some chanO → stepG P main.main g w = .go g' (w.setChan (X.ex j) 0 #[] true 0 0 false) (closeEvents (X.ex j))) →
      GK P main Stop { k1 with gh := gh' } g' → GK P main Stop k g
  | recvQ {k : Kn} {g : Goroutine} (X : RunC) (q wg left : Nat) (z : Value) : k.gh = .wk X q wg left .idle → k.deaf = 0 → g.status = .running →
      (∀ w, k.Sat w → stepG P main.main g w = .comm g #[rcase q z] true (.recv true) w #[]) →
      (∀ i l, i < X.n → left = l + 1 → GK P main Stop { k with gh := .wk X q wg l (.job i false) } (Go.Conc.served g (.tuple #[.int .i64 i, .bool true]))) →
      GK P main Stop { k with gh := .wkf X q wg } (Go.Conc.served g (.tuple #[z, .bool false])) → GK P main Stop k g
  | share {k : Kn} {g : Goroutine} (X : RunC) (q wg b : Nat) : k.gh = .run X b → k.own q = some chanO → k.own wg = some (Go.ConcR.wgBlock main.wgT 0 0) → q ≠ wg →
      GK P main Stop { k.minus q with gh := .par X q wg 0 0 b } g → GK P main Stop k g
  | spawn {k : Kn} {g g' c : Goroutine} (X : RunC) (q wg m b : Nat) : k.gh = .par X q wg m 0 (b + 1) → k.deaf = 0 → g.status = .running → (∀ w, k.Sat w → stepG P main.main g w = .spawn g' c w #[]) →
      c.status = .running → main.Kid (k.child (.wk X q wg X.n .idle)) c → GK P main Stop { k with gh := .par X q wg (m + 1) 0 b } g' → GK P main Stop k g
  | sendQ {k : Kn} {g : Goroutine} (X : RunC) (q wg m s b : Nat) (z : Value) : k.gh = .par X q wg m s b → s < X.n → 0 < m → k.deaf = 0 → g.status = .running →
      (∀ w, k.Sat w → stepG P main.main g w = .comm g #[scase q (.int .i64 s) z] true .send w #[]) →
      GK P main Stop { k with gh := .par X q wg m (s + 1) b } (Go.Conc.served g undef) → GK P main Stop k g
  | closeQ {k : Kn} {g g' : Goroutine} (X : RunC) (q wg m b : Nat) : k.gh = .par X q wg m X.n b → 0 < m → m < 2147483648 → k.deaf = 0 → g.status = .running → mayWake P g = true → k.own wg = some (Go.ConcR.wgBlock main.wgT (m * Go.ConcR.KK) 0) →
      (∀ w s, k.Sat w → w.heap[q]? = some (.chan 0 #[] false s s false) → stepG P main.main g w = .go g' (w.setChan q 0 #[] true s s false) (closeEvents q)) →
      GK P main Stop { k.minus wg with live := some (wg, main.wgT), gh := .shut X q wg m m b } g' → GK P main Stop k g
  | wLoad {k : Kn} {g : Goroutine} (X : RunC) (q wg m B b : Nat) (G' : Nat → Goroutine) : k.gh = .shut X q wg m B b → 0 < k.deaf → g.status = .running →
      (∀ w v, k.Sat w → v ≤ B → Go.ConcR.WgAt main.wgT wg w (v * Go.ConcR.KK) 0 → stepG P main.main g w = .go (G' v) w #[Go.ConcR.rd (Go.ConcR.stA wg)]) →
      (∀ v, v ≤ B → GK P main Stop { k with gh := if v = 0 then .fin X q wg m b else .shut X q wg m v b } (G' v)) → GK P main Stop k g
  | wCas {k : Kn} {g g1 g2 : Goroutine} (X : RunC) (q wg m B b : Nat) : k.gh = .shut X q wg m (B + 1) b → 0 < k.deaf → g.status = .running →
      (∀ w, k.Sat w → Go.ConcR.WgAt main.wgT wg w (((B + 1 : Nat) : Int) * Go.ConcR.KK) 0 → stepG P main.main g w = .go g1 (w.setCell (Go.ConcR.stA wg) (.int .u64 (((B + 1 : Nat) : Int) * Go.ConcR.KK + 1))) #[Go.ConcR.rd (Go.ConcR.stA wg), Go.ConcR.wr (Go.ConcR.stA wg)]) →
      (∀ w v, k.Sat w → v ≤ B → Go.ConcR.WgAt main.wgT wg w (v * Go.ConcR.KK) 0 → stepG P main.main g w = .go g2 w #[Go.ConcR.rd (Go.ConcR.stA wg)]) →
      GK P main Stop { k with gh := .reg X q wg m b } g1 → GK P main Stop { k with gh := .shut X q wg m B b } g2 → GK P main Stop k g
  | wWrite {k : Kn} {g g' : Goroutine} (X : RunC) (q wg m b : Nat) (a : Addr) : k.gh = .reg X q wg m b → a.block = wg → g.status = .running →
      (∀ w, k.Sat w → stepG P main.main g w = .go g' w #[⟨.mark (.write a), false, true⟩]) → GK P main Stop k g' → GK P main Stop k g
  | wSem {k : Kn} {g g' : Goroutine} (X : RunC) (q wg m b : Nat) : k.gh = .reg X q wg m b → 0 < k.deaf → g.status = .running → g.offers = none →
      (∀ w st, k.Sat w → Go.ConcR.WgAt main.wgT wg w st 0 → stepG P main.main g w = .go { g with status := .blocked } w #[]) →
      (∀ w, k.Sat w → Go.ConcR.WgAt main.wgT wg w 0 1 → stepG P main.main g w = .go g' (w.setCell (Go.ConcR.smA wg) (.int .u32 0)) (semEvents (Go.ConcR.smA wg))) →
      GK P main Stop { k with gh := .fin X q wg m b } g' → GK P main Stop k g
  | wLoad0 {k : Kn} {g g' : Goroutine} (X : RunC) (q wg m b : Nat) : k.gh = .fin X q wg m b → 0 < k.deaf → g.status = .running →
      (∀ w, k.Sat w → Go.ConcR.WgAt main.wgT wg w 0 0 → stepG P main.main g w = .go g' w #[Go.ConcR.rd (Go.ConcR.stA wg)]) → GK P main Stop k g' → GK P main Stop k g
  | wAcq {k : Kn} {g g' : Goroutine} (X : RunC) (q wg m b : Nat) : k.gh = .fin X q wg m b → k.deaf = 0 → g.status = .running →
      (∀ w, stepG P main.main g w = .go g' w #[⟨.mark (.acquire (Go.ConcR.stA wg)), false, true⟩]) →
      (∀ kt, main.Tok X X.n kt → k.Disj kt → GK P main Stop { k.join kt with live := none, gh := .lone b } g') → GK P main Stop k g

section
variable {P : Program} {main : Who} {Stop : Kn → Goroutine → Prop} {k : Kn} {g : Goroutine}
theorem GK.next (hs : g.status = .running)
    (h : ∀ w, k.Sat w → (stepG P main.main g w).goes fun g' w' es => ∃ k', k.Step k' w w' es ∧ GK P main Stop k' g') : GK P main Stop k g := by
  have h' : ∀ w, ∃ k', k.Sat w → (stepG P main.main g w).goes fun g' w' es => k.Step k' w w' es ∧ GK P main Stop k' g' := by
    intro w
    by_cases hw : k.Sat w
    · have := h w hw
      revert this
      cases stepG P main.main g w <;> simp only [GStep.goes] <;> first | exact fun x => x.elim | skip
      rintro ⟨k', h1, h2⟩
      exact ⟨k', fun _ => ⟨h1, h2⟩⟩
    · exact ⟨k, fun x => absurd x hw⟩
  let nx : World → Kn := fun w => (h' w).choose
  have hn : ∀ w, k.Sat w → (stepG P main.main g w).goes fun g' w' es => k.Step (nx w) w w' es ∧ GK P main Stop (nx w) g' := fun w => (h' w).choose_spec
  refine GK.step nx hs (fun w hw => ?_) (fun w g' w' es hw e => ?_)
  · have := hn w hw
    revert this
    cases stepG P main.main g w <;> simp only [GStep.goes] <;> first | exact fun x => x.elim | skip
    exact fun x => x.1
  · have := hn w hw
    rw [e] at this
    exact this.2
/-- A step that is the same in every world and turns nothing. -/
theorem GK.quiet {g' : Goroutine} (hs : g.status = .running) (h : ∀ w, stepG P main.main g w = .go g' w #[]) (hg : GK P main Stop k g') : GK P main Stop k g :=
  GK.next hs fun w hw => by rw [h w]; exact ⟨k, k.idle hw, hg⟩
theorem GK.bind {Stop' : Kn → Goroutine → Prop} (h : GK P main Stop k g) (hS : ∀ k g, Stop k g → GK P main Stop' k g) : GK P main Stop' k g := by
  induction h with
  | stop h => exact hS _ _ h
  | step nx hs h1 _ ih => exact GK.step nx hs h1 ih
  | mark m hm hs h1 _ ih => exact GK.mark m hm hs h1 ih
  | turn h _ ih => exact GK.turn h ih
  | recvE X q wg left i j z h1 h2 h3 h4 h5 _ ih => exact GK.recvE X q wg left i j z h1 h2 h3 h4 h5 ih
  | recvT X q wg left i z h1 h2 h3 h4 _ ih => exact GK.recvT X q wg left i z h1 h2 h3 h4 ih
  | closeE X j gh' h1 h2 h3 hm h4 h5 h6 h7 _ ih => exact GK.closeE X j gh' h1 h2 h3 hm h4 h5 h6 h7 ih
  | recvQ X q wg left z h1 h2 h3 h4 _ _ ih1 ih2 => exact GK.recvQ X q wg left z h1 h2 h3 h4 ih1 ih2
  | share X q wg b h1 h2 h3 h4 _ ih => exact GK.share X q wg b h1 h2 h3 h4 ih
  | spawn X q wg m b h1 h2 h3 h4 h5 h6 _ ih => exact GK.spawn X q wg m b h1 h2 h3 h4 h5 h6 ih
  | sendQ X q wg m s b z h1 h2 h3 h4 h5 h6 _ ih => exact GK.sendQ X q wg m s b z h1 h2 h3 h4 h5 h6 ih
  | closeQ X q wg m b h1 h2 h3 h4 h5 hm h6 h7 _ ih => exact GK.closeQ X q wg m b h1 h2 h3 h4 h5 hm h6 h7 ih
  | wLoad X q wg m B b G' h1 h2 h3 h4 _ ih => exact GK.wLoad X q wg m B b G' h1 h2 h3 h4 ih
  | wCas X q wg m B b h1 h2 h3 h4 h5 _ _ ih1 ih2 => exact GK.wCas X q wg m B b h1 h2 h3 h4 h5 ih1 ih2
  | wWrite X q wg m b a h1 h2 h3 h4 _ ih => exact GK.wWrite X q wg m b a h1 h2 h3 h4 ih
  | wSem X q wg m b h1 h2 h3 h4 h5 h6 _ ih => exact GK.wSem X q wg m b h1 h2 h3 h4 h5 h6 ih
  | wLoad0 X q wg m b h1 h2 h3 h4 _ ih => exact GK.wLoad0 X q wg m b h1 h2 h3 h4 ih
  | wAcq X q wg m b h1 h2 h3 h4 _ ih => exact GK.wAcq X q wg m b h1 h2 h3 h4 ih
theorem GK.running (h : GK P main Stop k g) (hS : ∀ k g, Stop k g → g.status = .running) : g.status = .running := by
  induction h with
  | stop h => exact hS _ _ h
  | turn _ _ ih => exact ih
  | share _ _ _ _ _ _ _ _ _ ih => exact ih
  | _ => assumption
end

/-- Where the walk goes on behind a piece of code that is left by this way out. -/
def AfterK (P : Program) (main : Who) (Stop : Kn → Goroutine → Prop) (b : Frame) (kk : List Item) (cs : List Frame) : Exit → Act → Kn → Prop
  | .normal, a, k => GK P main Stop k (G (b.at a kk) cs)
  | .exit id, a, k => ∃ k', exitTo id kk = some k' ∧ GK P main Stop k (G (b.at a k') cs)
  | .ret, a, k => ∀ todo, GK P main Stop k (G { b.at a todo with mode := .returning } cs)
  | _, _, _ => False
theorem AfterK.push {P : Program} {main : Who} {Stop : Kn → Goroutine → Prop} {b : Frame} {x : Item} {kk : List Item} {cs : List Frame} {e : Exit} {a : Act} {k : Kn} (hx : x.plain = true) (he : e ≠ .normal)
    (h : AfterK P main Stop b kk cs e a k) : AfterK P main Stop b (x :: kk) cs e a k := by
  cases e with
  | normal => exact absurd rfl he
  | exit id => obtain ⟨k', hk, hg⟩ := h; exact ⟨k', by cases x <;> simp_all [exitTo, Item.plain], hg⟩
  | ret => exact h
  | goto l => exact h
  | panic ch => exact h
  | outgrown => exact h

/-- THE JUDGEMENT on code. -/
def _root_.Go.Code.wpK (P : Program) (main : Who) (fn : FuncId) (c : Code) (Q : Exit → Act → Kn → Prop) (a : Act) (k : Kn) : Prop :=
  ∀ (b : Frame) (kk : List Item) (cs : List Frame) (Stop : Kn → Goroutine → Prop), b.fn = fn → b.kind ≠ .early →
    (∀ e a' k', Q e a' k' → AfterK P main Stop b kk cs e a' k') → GK P main Stop k (G (b.at a (.code c :: kk)) cs)
def OpsK (P : Program) (main : Who) (fn : FuncId) (ops : Array Oper) (todo : List Nat) (Q : Exit → Act → Kn → Prop) (a : Act) (k : Kn) : Prop :=
  ∀ (b : Frame) (kk : List Item) (cs : List Frame) (Stop : Kn → Goroutine → Prop), b.fn = fn → b.kind ≠ .early →
    (∀ e a' k', Q e a' k' → AfterK P main Stop b kk cs e a' k') → GK P main Stop k (G (b.at a (.inRegion ops todo :: kk)) cs)
/-- What follows, where a piece is left normally. -/
def thenK (N : Act → Kn → Prop) (Q : Exit → Act → Kn → Prop) : Exit → Act → Kn → Prop
  | .normal, a, k => N a k
  | e, a, k => Q e a k
def blockK (id : Nat) (Q : Exit → Act → Kn → Prop) : Exit → Act → Kn → Prop
  | .exit i, a, k => if i = id then Q .normal a k else Q (.exit i) a k
  | e, a, k => Q e a k

section rules
variable {P : Program} {main : Who} {fn : FuncId} {Q : Exit → Act → Kn → Prop} {a : Act} {k : Kn}
theorem wpK_mono {c : Code} {Q' : Exit → Act → Kn → Prop} (h : c.wpK P main fn Q a k) (hq : ∀ e a k, Q e a k → Q' e a k) : c.wpK P main fn Q' a k :=
  fun b kk cs Stop hb hk hc => h b kk cs Stop hb hk fun e a' k' q => hc e a' k' (hq e a' k' q)
theorem OpsK.mono {ops : Array Oper} {todo : List Nat} {Q' : Exit → Act → Kn → Prop} (h : OpsK P main fn ops todo Q a k) (hq : ∀ e a k, Q e a k → Q' e a k) : OpsK P main fn ops todo Q' a k :=
  fun b kk cs Stop hb hk hc => h b kk cs Stop hb hk fun e a' k' q => hc e a' k' (hq e a' k' q)
theorem wpK_skip (h : Q .normal a k) : Code.skip.wpK P main fn Q a k := fun b kk cs Stop _ _ hc =>
  GK.quiet rfl (fun _ => stepG_skip) (hc _ _ _ h)
theorem wpK_label {l : Nat} (h : Q .normal a k) : (Code.label l).wpK P main fn Q a k := fun b kk cs Stop _ _ hc =>
  GK.quiet rfl (fun _ => stepG_label) (hc _ _ _ h)
theorem wpK_ret (h : Q .ret a k) : Code.ret.wpK P main fn Q a k := fun b kk cs Stop _ _ hc =>
  GK.quiet rfl (fun _ => stepG_ret') (hc _ _ _ h _)
theorem wpK_exit {id : Nat} (h : Q (.exit id) a k) : (Code.exit id).wpK P main fn Q a k := fun b kk cs Stop _ _ hc => by
  obtain ⟨k', hk', hg⟩ := hc _ _ _ h
  exact GK.quiet rfl (fun _ => stepG_exit hk') hg
theorem wpK_seq {x y : Code} (h : x.wpK P main fn (thenK (fun a' k' => y.wpK P main fn Q a' k') Q) a k) : (Code.seq x y).wpK P main fn Q a k := by
  intro b kk cs Stop hb hk hc
  refine GK.quiet rfl (fun _ => stepG_seq) (h b (.code y :: kk) cs Stop hb hk fun e a' k' q => ?_)
  cases e with
  | normal => exact q b kk cs Stop hb hk hc
  | exit id => exact (hc _ _ _ q).push rfl (by simp)
  | ret => exact (hc _ _ _ q).push (x := .code y) rfl (by simp)
  | goto l => exact hc _ _ _ q
  | panic ch => exact hc _ _ _ q
  | outgrown => exact hc _ _ _ q
theorem wpK_cond {c : Operand} {x y : Code} {t : Bool} (hc : a.eval c = .bool t) (h : (if t then x else y).wpK P main fn Q a k) : (Code.cond c x y).wpK P main fn Q a k :=
  fun b kk cs Stop hb hk hq => GK.quiet rfl (fun _ => stepG_cond hc) (h b kk cs Stop hb hk hq)
theorem wpK_block {id : Nat} {c : Code} (h : c.wpK P main fn (blockK id Q) a k) : (Code.block id c).wpK P main fn Q a k := by
  intro b kk cs Stop hb hk hc
  refine GK.quiet rfl (fun _ => stepG_block) (h b (.inBlock id :: kk) cs Stop hb hk fun e a' k' q => ?_)
  cases e with
  | normal => exact GK.quiet rfl (fun _ => stepG_inBlock) (hc _ _ _ q)
  | exit id' =>
    by_cases hid : id' = id
    · simp only [blockK, hid, if_true] at q
      exact ⟨kk, by simp [exitTo, hid], hc _ _ _ q⟩
    · simp only [blockK, hid, if_false] at q
      obtain ⟨k'', hk', hg⟩ := hc _ _ _ q
      have : (id == id') = false := by simp; exact fun h => hid h.symm
      exact ⟨k'', by simp [exitTo, this, hk'], hg⟩
  | ret => exact fun todo => hc _ _ _ q todo
  | goto l => exact hc _ _ _ q
  | panic ch => exact hc _ _ _ q
  | outgrown => exact hc _ _ _ q
/-- A LOOP: an invariant with something that falls. -/
theorem wpK_loop {α : Type} {r : α → α → Prop} (wf : WellFounded r) {c : Code} (I : α → Act → Kn → Prop) {x : α} (h₀ : I x a k)
    (round : ∀ x a k, I x a k → c.wpK P main fn (thenK (fun a' k' => ∃ y, r y x ∧ I y a' k') Q) a k) : (Code.loop c).wpK P main fn Q a k := by
  intro b kk cs Stop hb hk hc
  have key : ∀ x a k, I x a k → GK P main Stop k (G (b.at a (.code c :: .inLoop c :: kk)) cs) := by
    intro x
    induction x using wf.induction with
    | _ x ih =>
      intro a k hI
      refine round x a k hI b (.inLoop c :: kk) cs Stop hb hk fun e a' k' q => ?_
      cases e with
      | normal =>
        obtain ⟨y, hy, hI'⟩ := q
        exact GK.quiet rfl (fun _ => stepG_inLoop) (ih y hy a' k' hI')
      | exit id => exact (hc _ _ _ q).push rfl (by simp)
      | ret => exact (hc _ _ _ q).push (x := .inLoop c) rfl (by simp)
      | goto l => exact hc _ _ _ q
      | panic ch => exact hc _ _ _ q
      | outgrown => exact hc _ _ _ q
  exact GK.quiet rfl (fun _ => stepG_loop) (key x a k h₀)
/-! ### regions -/
theorem wpK_region {id : Nat} {ops : Array Oper} (h : OpsK P main fn ops (List.range ops.size) Q a k) : (Code.region id ops false).wpK P main fn Q a k :=
  fun b kk cs Stop hb hk hc => GK.quiet rfl (fun _ => stepG_region) (h b kk cs Stop hb hk hc)
theorem wpK_region_draw {id : Nat} {ops : Array Oper} (h : ∀ t, OpsK P main fn ops (Region.schedule (P.follows .mixedOrders) ops t) Q a k) : (Code.region id ops true).wpK P main fn Q a k :=
  fun b kk cs Stop hb hk hc => GK.next rfl fun w hw => by
    rw [stepG_region_draw]
    exact ⟨k, k.draw hw _, h _ b kk cs Stop hb hk hc⟩
theorem opsK_nil {ops : Array Oper} (h : Q .normal a k) : OpsK P main fn ops [] Q a k := fun b kk cs Stop _ _ hc =>
  GK.quiet rfl (fun _ => stepG_region_end) (hc _ _ _ h)
/-- ONE OPERATION, whichever world it meets. -/
theorem opsK_cons {ops : Array Oper} {i : Nat} {rest : List Nat} {o : Oper} (ho : ops[i]? = some o) (hw : Region.wanted o (yielded ops a.tmps) = true)
    (h : ∀ w, k.Sat w → uponK o a (fun a' w' => ∃ k', k.Step k' w w' (listed P fn a o w) ∧ OpsK P main fn ops rest Q a' k') ((execOp a.eval o).run P w)) : OpsK P main fn ops (i :: rest) Q a k := by
  intro b kk cs Stop hb hk hc
  refine GK.next rfl fun w hs => goes_oper ho hw hk ?_
  have := h w hs
  revert this
  cases (execOp a.eval o).run P w with
  | ok x w' => cases x <;> first | exact fun ⟨k', d, g⟩ => ⟨k', hb ▸ d, g b kk cs Stop hb hk hc⟩ | exact id
  | halt _ _ => exact id
theorem opsK_unwanted {ops : Array Oper} {i : Nat} {rest : List Nat} {o : Oper} (ho : ops[i]? = some o) (hw : Region.wanted o (yielded ops a.tmps) = false)
    (h : OpsK P main fn ops rest Q (a.put o.dst undef) k) : OpsK P main fn ops (i :: rest) Q a k :=
  fun b kk cs Stop hb hk hc => GK.quiet rfl (fun _ => stepG_unwanted ho hw) (h b kk cs Stop hb hk hc)
/-- An operation that yields the same in every world, turns and lists nothing. -/
theorem opsK_pure {ops : Array Oper} {i : Nat} {rest : List Nat} {o : Oper} {v : Value} (ho : ops[i]? = some o) (hw : Region.wanted o (yielded ops a.tmps) = true)
    (hv : ∀ w, (execOp a.eval o).run P w = .ok (.value v) w) (hl : ∀ w, listed P fn a o w = #[]) (h : OpsK P main fn ops rest Q (a.put o.dst v) k) : OpsK P main fn ops (i :: rest) Q a k :=
  opsK_cons ho hw fun w hs => by rw [hv w]; exact ⟨k, by rw [hl w]; exact k.idle hs, h⟩
end rules
end Go.Proofs.Ytacfhfeegalmlaa
