/-
  Joined texts: GENERIC SMALL LAWS, over any program: integer slices that can be read ('Rd'), integer slices of the call's own ('Own'), append to those. · GENERIC LAWS, over any program: rows of whatever cells that can be read or are the call's own; append, make, store. · GENERIC LAWS, over any program: what a call may have written ('Fr'), and what stands besides; append, with where the new row lies. · GENERIC, over any program: maps keyed by addresses, or by what is made of addresses: what such a map holds, key by key; a look-up, a store. · GENERIC LAWS, over any program: a family of rows of the call's own (each of one-cell elements), no two in one block, none in the blocks N; append, store, make, copy at the operation. · trees of expressions: in words, and us they lie in memory.
-/
import Derived.Test.YtpabngicbfcdkaaDoorRows
import Derived.WalkKit
import Derived.ProofKit
import Derived.OpenShut
import Derived.WalkSpells
import Derived.WalkLawsBesides
import Derived.Lib.Hide
import Derived.SizedLaws
import Derived.ChangeSlices
import Derived.Maps.AppendAt
import Derived.LaidEqlPtr
import Derived.Maps.Own
import Derived.Laws.CopyOwn
import Derived.Laws.ResultCell
import Derived.Deep.MidRow

/- GENERIC SMALL LAWS, over any program: integer slices that can be read ('Rd'), integer slices of the call's own ('Own'), append to those. -/
namespace Go.Proofs.YtpabngicbfcdkaaDoor
open Go.RowKit
set_option linter.unusedVariables false
set_option linter.unusedSimpArgs false

/-- the n elements of a slice value with address a read as the numbers l -/
structure Rd (w : World) (k : IntKind) (a : Option Addr) (n : Nat) (l : List Int) : Prop where
  len : l.length = n
  max : n ≤ 9223372036854775807
  cell : ∀ i, i < n → ∃ b off, a = some ⟨b, off, none⟩ ∧ w.cell? ⟨b, off + i, none⟩ = some (.int k (l.getD i 0))
  wf : ∀ x ∈ l, (Lit.int k x).wf = true

theorem Rd.below {w w' : World} {k a n l} (h : Rd w k a n l) (hb : Below w.heap.size w w') : Rd w' k a n l :=
  ⟨h.len, h.max, fun i hi => by
    obtain ⟨b, off, ha, hc⟩ := h.cell i hi
    exact ⟨b, off, ha, (hb.cell (World.block_lt_of_cell? w _ hc)).trans hc⟩, h.wf⟩

theorem Rd.lt {w : World} {k a n l} (h : Rd w k a n l) : ∀ x, a = some x → 0 < n → x.block < w.heap.size := by
  intro x hx hn
  obtain ⟨b, off, ha, hc⟩ := h.cell 0 hn
  rw [hx] at ha; cases ha
  exact World.block_lt_of_cell? w _ hc

/-- a slice of the call's own, from block 'base' on -/
def Own (w : World) (base : Nat) (e : TypeId) (k : IntKind) (v : Value) (l : List Int) : Prop :=
  w.ownsRow base e 1 v l.length (l.map (Value.int k))

theorem Own.drew {w : World} {base e k v l} (h : Own w base e k v l) : Own w.drew base e k v l := h
theorem Own.alloc {w : World} {base e k v l} (h : Own w base e k v l) (o : Obj) : Own (w.alloc o) base e k v l := World.ownsRow.alloc h o
theorem Own.kept {w w' : World} {base e k v l row} (h : Own w base e k v l) (hg : w.grownBy w' row) (hne : v.ownBlock = none ∨ v.ownBlock ≠ row) : Own w' base e k v l := World.ownsRow.kept h hg hne

theorem Own.below {w w' : World} {base e k v l} (h : Own w base e k v l) (hb : Below w.heap.size w w') : Own w' base e k v l := by
  refine ⟨h.1, ?_⟩
  rcases h.2 with hn | ⟨g, cap, cur, rfl, hbb, hgg, rest⟩
  · exact .inl hn
  · exact .inr ⟨g, cap, cur, rfl, hbb, by rw [hb.block g (Array.getElem?_eq_some_iff.1 hgg).1]; exact hgg, rest⟩

theorem Own.mono {w : World} {base base' e k v l} (h : Own w base e k v l) (hb : base' ≤ base) : Own w base' e k v l := by
  refine ⟨h.1, ?_⟩
  rcases h.2 with hn | ⟨g, cap, cur, rfl, hbb, r⟩
  · exact .inl hn
  · exact .inr ⟨g, cap, cur, rfl, by omega, r⟩

theorem Own.rd {w : World} {base e k a n c l} (h : Own w base e k (.slice a n c) l) (hwf : ∀ x ∈ l, (Lit.int k x).wf = true) : Rd w k a n l := by
  have hw := h
  obtain ⟨h1, h2⟩ := h
  rcases h2 with ⟨hv, hn⟩ | ⟨g, cap, cur, hv, hb, hgg, hnc, hcm, hcs, htake⟩
  · cases hv
    have hl : l = [] := List.eq_nil_of_length_eq_zero hn
    subst hl
    exact ⟨rfl, by omega, fun i hi => by omega, hwf⟩
  · cases hv
    refine ⟨rfl, by unfold maxLen at hcm; omega, fun i hi => ⟨g, 0, rfl, ?_⟩, hwf⟩
    have := World.ownsRow.cellAt hw i (by simpa using hi)
    rw [Nat.zero_add, this]
    simp [List.getD, hi]

theorem Own.form {w : World} {base e k v l} (h : Own w base e k v l) : ∃ a c, v = .slice a l.length c := by
  rcases h.2 with ⟨rfl, h0⟩ | ⟨g, cap, cur, rfl, _⟩
  · exact ⟨none, 0, by rw [h0]⟩
  · exact ⟨_, _, rfl⟩

/-- the facts on an integer slice's type and its element's -/
structure Elt (P : Program) (t e : TypeId) (k : IntKind) (bytes : Nat) : Prop where
  ht : P.underlying t = some (.slice e)
  hi : ∃ i, P.info? e = some i ∧ i.zero = some (.int k 0) ∧ i.size = 1 ∧ i.bytes = bytes

theorem Rd.news {w : World} {k a n l} (h : Rd w k (some a) n l) : ∀ j u, (l.map (Value.int k))[j]? = some u → w.cell? (a.add j) = some u := by
  intro j u hu
  simp only [List.getElem?_map, Option.map_eq_some_iff] at hu
  obtain ⟨x, hx, rfl⟩ := hu
  have hj : j < l.length := (List.getElem?_eq_some_iff.1 hx).1
  obtain ⟨b, off, ha, hc⟩ := h.cell j (by rw [← h.len]; exact hj)
  cases ha
  rw [Addr.add_lit, hc]
  simp [List.getD, hx]

theorem grown_below {w w' : World} {v : Value} {base e k l} (ho : Own w base e k v l) (hg : w.grownBy w' v.ownBlock) (hb : base ≤ w.heap.size) : Below base w w' :=
  (Below.refl _ _).grown hg hb (fun x hx => (ho.lt x hx).1)

/-- append of a readable slice to one of the call's own -/
theorem app_rd {P : Program} {w : World} {ops : Array Oper} {rest : List Oper} {o : Oper} {a : Act} {Q : Exit → Act → World → Prop} (s x : Operand) {t e : TypeId} {k : IntKind} {bytes : Nat} (E : Elt P t e k bytes)
    (hgd : o.guard = none) (ho : o.op = .call { callee := .builtin .append, args := #[s, x], argTypes := #[t, t] })
    (base : Nat) (v : Value) (l : List Int) (hs : a.eval s = v) (hown : Own w base e k v l) (ad : Option Addr) (m c : Nat) (l2 : List Int) (hx : a.eval x = .slice ad m c) (hr : Rd w k ad m l2)
    (hlen : (l.length + l2.length) * bytes ≤ 140737488355328) (hpos : 0 < bytes) (hbase : base ≤ w.heap.size)
    (h : ∀ a' c' w', Own w' base e k (.slice a' (l ++ l2).length c') (l ++ l2) → w.grownBy w' v.ownBlock → wpList P ops Q rest (a.put o.dst (.slice a' (l ++ l2).length c')) w') : wpList P ops Q (o :: rest) a w := by
  obtain ⟨i, hi, hz, hsz, hby⟩ := E.hi
  have hm : m = l2.length := hr.len.symm
  have hb2 : (l.length + l2.length) ≤ 140737488355328 := Nat.le_trans (Nat.le_mul_of_pos_right _ hpos) hlen
  cases ad with
  | some ad =>
    refine wpList_append_own w hgd s x t ho base e i (.int k 0) 1 bytes E.ht hi hz hsz hby rfl (by decide) v l.length (l.map (Value.int k)) hs hown ad m c (l2.map (Value.int k)) hx (by simp [hm]) hr.news (ints_oneCell k l2)
      (by unfold maxLen; omega) (by rw [hm]; exact hlen) hbase ?_
    intro v' w' ho' hg' _
    have ho2 : Own w' base e k v' (l ++ l2) := by
      unfold Own
      rw [List.map_append, List.length_append, ← hm]; exact ho'
    obtain ⟨a', c', rfl⟩ := ho2.form
    exact h a' c' w' ho2 hg'
  | none =>
    have h0 : m = 0 := by
      rcases Nat.eq_zero_or_pos m with h0 | h0
      · exact h0
      · obtain ⟨b, off, ha, _⟩ := hr.cell 0 h0; cases ha
    subst h0
    have hl2 : l2 = [] := List.eq_nil_of_length_eq_zero hm.symm
    subst hl2
    refine wpList_plain hgd fun K hK' => ?_
    have hrun : (Builtin.append_ #[t, t] o.type #[v, .slice none 0 c]).run P w = .ok v w := by
      rcases hown.2 with ⟨rfl, h0⟩ | ⟨g, cap, cur, rfl, _, _, hnc, _⟩
      · simp [Builtin.append_, run_underlying E.ht, sizeOf, typeInfo, hi, Builtin.lenOf, Builtin.firstCells]
      · simp [Builtin.append_, run_underlying E.ht, sizeOf, typeInfo, hi, Builtin.lenOf, Builtin.firstCells, hnc, storeCells]
    unfold Oper.wp
    simp [execOp, ho, resolve, invoke, builtin, hs, hx, hrun, Result.andThen]
    obtain ⟨a', c', rfl⟩ := hown.form
    refine hK' _ _ ?_
    have := h a' c' w (by simpa using hown) (World.grownBy.refl _ _)
    simpa using this

/-- one new cell, as append's second argument has it -/
theorem Rd.one (w : World) (k : IntKind) (e : TypeId) (x : Int) (hx : (Lit.int k x).wf = true) : Rd (w.alloc (.cells #[.int k x] e)) k (some ⟨w.heap.size, 0, none⟩) 1 [x] :=
  ⟨rfl, by omega, fun i hi => ⟨_, _, rfl, by
    obtain rfl : i = 0 := by omega
    rw [Nat.zero_add, World.cell?_alloc_new]; rfl⟩, by simpa using hx⟩

/-- a new block of listed numbers -/
theorem Rd.lits (w : World) (k : IntKind) (e : TypeId) (l : List Int) (hm : l.length ≤ 9223372036854775807) (hx : ∀ x ∈ l, (Lit.int k x).wf = true) : Rd (w.alloc (.cells (l.map (Value.int k)).toArray e)) k (some ⟨w.heap.size, 0, none⟩) l.length l :=
  ⟨rfl, hm, fun i hi => ⟨_, _, rfl, by rw [Nat.zero_add, World.cell?_alloc_new]; simp [hi]⟩, hx⟩

theorem Own.lits (w : World) (k : IntKind) (e : TypeId) (l : List Int) (base : Nat) (hb : base ≤ w.heap.size) (hm : l.length ≤ 9223372036854775807) : Own (w.alloc (.cells (l.map (Value.int k)).toArray e)) base e k (.slice (some ⟨w.heap.size, 0, none⟩) l.length l.length) l := by
  have := World.ownsRow_lit (e := e) (base := base) (size := 1) w (l.map (Value.int k)).toArray l.length hb (by unfold maxLen; omega) (by simp)
  simpa [Own] using this

theorem Own.nil (w : World) (base : Nat) (e : TypeId) (k : IntKind) : Own w base e k (.slice none 0 0) [] := World.ownsRow_nil w base e 1

theorem below_alloc (w : World) (o : Obj) : Below w.heap.size w (w.alloc o) := (Below.refl _ _).alloc (Nat.le_refl _) o

theorem below_cell {W w1 : World} (hb : Below W.heap.size W w1) {a : Addr} {v : Value} (h : W.cell? a = some v) : w1.cell? a = some v := (hb.cell (World.block_lt_of_cell? W _ h)).trans h

theorem bthen {a b c : World} (h : Below a.heap.size a b) (k : Below b.heap.size b c) : Below a.heap.size a c := h.trans (k.mono h.size)

theorem bd_u8 {x : Int} (h : (Lit.int .u8 x).wf = true) : 0 ≤ x ∧ x ≤ 255 := by simpa [Lit.wf, IntKind.min, IntKind.max, IntKind.signed, IntKind.bits] using h
theorem bd_u64 {x : Int} (h : (Lit.int .u64 x).wf = true) : 0 ≤ x ∧ x ≤ 18446744073709551615 := by simpa [Lit.wf, IntKind.min, IntKind.max, IntKind.signed, IntKind.bits] using h
theorem bd_i64 {x : Int} (h : (Lit.int .i64 x).wf = true) : -9223372036854775808 ≤ x ∧ x ≤ 9223372036854775807 := by simpa [Lit.wf, IntKind.min, IntKind.max, IntKind.signed, IntKind.bits] using h

theorem run_str {P : Program} (w : World) {k a n l} (c : Nat) (h : Rd w k a n l) (hk : k = .u8) (src dst e : TypeId) (hs : P.underlying src = some (.slice e)) (he : P.underlying e = some (.int .u8)) (hd : P.underlying dst = some .string) :
    (convert src dst (.slice a n c)).run P w = .ok (.string (strOfNums l)) w := by
  subst hk
  rcases Nat.eq_zero_or_pos n with h0 | h0
  · have hl : l = [] := List.eq_nil_of_length_eq_zero (by rw [h.len]; exact h0)
    subst hl; subst h0
    cases a with
    | none => rw [run_convert_bytes_nil w src e hs he _ _ dst hd]; rfl
    | some a =>
      rw [run_convert_bytes_string w src dst e _ 0 c hs he hd, run_bytesToString w a 0 c [] (by simp [loadCells, loadCellsFrom])]
      rfl
  · obtain ⟨b, off, rfl, _⟩ := h.cell 0 h0
    exact run_convert_bytes_arg w src e hs he b off n c l h.len (fun i hi => by
      obtain ⟨b', off', hb, hc⟩ := h.cell i hi
      cases hb; exact hc) dst hd

theorem slice_reach {α : Type} {n sp by_ : Nat} {elems : List α} (h : (elems.length + sp) * by_ ≤ reachBytes) (hl : elems.length = n) : n * by_ ≤ 140737488351232 := by
  subst hl
  have h2 : elems.length * by_ ≤ (elems.length + sp) * by_ := Nat.mul_le_mul_right _ (by omega)
  have h3 : reachBytes = 140737488351232 := by decide
  omega

theorem str_reach {α : Type} {s : List α} {n : Nat} (h : s.length ≤ reachBytes) (hn : s.length = n := by rfl) : n ≤ 140737488351232 := by
  have h3 : reachBytes = 140737488351232 := by decide
  omega

theorem open_rd {H : Type} {enc : TypeId × Value → H} {P : Program} {W : World} {t e : TypeId} {k : IntKind} {a : Option Addr} {n c : Nat} {d : DataW H} {p : List MemPlace}
    (ht : P.underlying t = some (.slice e)) (he : P.underlying e = some (.int k)) (hc : P.cellsOf e = 1)
    (h : DataW.Trod enc P W 0 (fun _ => true) true t (.slice a n c) d p) : ∃ l, Rd W k a n l ∧ n ≤ c ∧ ((d = .nil ∧ n = 0) ∨ ∃ elems spare, d = .slice elems spare ∧ elems.length = n) := by
  obtain ⟨fuel, hf⟩ := h
  rcases Go.ChangeShapes.open_ints ht he hc hf with ⟨hcs, hx⟩ | ⟨x, l, c', zs, hcs, _, hl, hm, hz, hx, hcell, hwz⟩
  · simp [Value.cells] at hcs
    obtain ⟨rfl, rfl, rfl⟩ := hcs
    refine ⟨[], ⟨rfl, by omega, fun i hi => by omega, by simp⟩, by omega, .inl ⟨by simpa using congrArg Prod.fst hx, rfl⟩⟩
  · simp [Value.cells] at hcs
    obtain ⟨rfl, rfl, rfl⟩ := hcs
    have hz' : zs.length = c := by simpa using hz
    refine ⟨zs.take n, ⟨by rw [List.length_take]; omega, by unfold maxLen at hm; omega, fun i hi => ?_, fun y hy => hwz y (List.mem_of_mem_take hy)⟩, hl, .inr ⟨_, _, congrArg Prod.fst hx, by simp [Go.ChangeShapes.lits]; omega⟩⟩
    have h1 := hcell i (by omega)
    have hspot := World.cell?_spot (hcell 0 (by omega))
    obtain ⟨b, off, spot⟩ := x
    have : spot = none := by simpa [Addr.add] using hspot
    subst this
    refine ⟨b, off, rfl, ?_⟩
    rw [Addr.add_lit] at h1
    rw [h1]
    simp [List.getD, hi]

/-- make([]T, 0, n) with a size that is a number -/
theorem make_own {P : Program} {w : World} {ops : Array Oper} {rest : List Oper} {o : Oper} {a : Act} {Q : Exit → Act → World → Prop} {t e : TypeId} {k : IntKind} {bytes : Nat} (E : Elt P t e k bytes)
    (hgd : o.guard = none) (s x : Operand) (ho : o.op = Op.makeSlice t s x) (base : Nat) (kl kc : IntKind) (C : Int) (n : Nat) (hs : a.eval s = .int kl 0) (hx : a.eval x = .int kc C) (hC : C = (n : Int))
    (hb : n * bytes ≤ 281474976710656) (hn : n ≤ 9223372036854775807) (hbase : base ≤ w.heap.size)
    (h : ∀ w', Own w' base e k (.slice (some ⟨w.heap.size, 0, none⟩) 0 n) [] → w.grownBy w' none → wpList P ops Q rest (a.put o.dst (.slice (some ⟨w.heap.size, 0, none⟩) 0 n)) w') : wpList P ops Q (o :: rest) a w := by
  obtain ⟨i, hi, hz, hsz, hby⟩ := E.hi
  exact wpList_make_own w hgd s x t ho base e i (.int k 0) 1 E.ht hi hz hsz kl kc C n hs hx hC (by rw [hby, Nat.mul_comm]; exact hb) (by unfold maxLen; omega) hbase h

/-- make([]T, n) -/
theorem make_full {P : Program} {w : World} {ops : Array Oper} {rest : List Oper} {o : Oper} {a : Act} {Q : Exit → Act → World → Prop} {t e : TypeId} {k : IntKind} {bytes : Nat} (E : Elt P t e k bytes)
    (hgd : o.guard = none) (s x : Operand) (ho : o.op = Op.makeSlice t s x) (base : Nat) (kl kc : IntKind) (L C : Int) (n : Nat) (hs : a.eval s = .int kl L) (hx : a.eval x = .int kc C) (hL : L = (n : Int)) (hC : C = (n : Int))
    (hb : n * bytes ≤ 281474976710656) (hn : n ≤ 9223372036854775807) (hbase : base ≤ w.heap.size)
    (h : ∀ w', Own w' base e k (.slice (some ⟨w.heap.size, 0, none⟩) n n) (List.replicate n 0) → w.grownBy w' none → wpList P ops Q rest (a.put o.dst (.slice (some ⟨w.heap.size, 0, none⟩) n n)) w') : wpList P ops Q (o :: rest) a w := by
  obtain ⟨i, hi, hz, hsz, hby⟩ := E.hi
  refine wpList_make_full w hgd s x t ho base e i (.int k 0) 1 E.ht hi hz hsz kl kc L C n hs hx hL hC (by rw [hby, Nat.mul_comm]; exact hb) (by unfold maxLen; omega) hbase fun w' h1 h2 => h w' ?_ h2
  have e1 : (madeCells (Value.int k 0).cells (n * 1)).toList = (List.replicate n (0 : Int)).map (Value.int k) := by
    rw [Nat.mul_one, show (Value.int k 0).cells = #[.int k 0] from rfl, toList_madeCells_one, List.map_replicate]
  unfold Own
  rw [← e1, List.length_replicate]
  exact h1

theorem grown_below' {w w' : World} {base : Nat} (hg : w.grownBy w' none) (hb : base ≤ w.heap.size) : Below base w w' :=
  (Below.refl _ _).grown hg hb (fun x hx => by cases hx)

theorem Elt.elem {P : Program} {t e : TypeId} {k : IntKind} {bytes : Nat} (E : Elt P t e k bytes) : P.elem t = e := by
  have := E.ht
  unfold Program.elem
  rw [this]

theorem Elt.sz {P : Program} {t e : TypeId} {k : IntKind} {bytes : Nat} (E : Elt P t e k bytes) (w : World) : (sizeOf e).run P w = .ok 1 w := by
  obtain ⟨i, hi, _, hs, _⟩ := E.hi
  simp [sizeOf, typeInfo, hi, hs]

theorem Rd.drop_ {w : World} {k a n l} (h : Rd w k a n l) {c u : Nat} (hu : u ≤ n) (hnc : n ≤ c) : Rd w k (if c = u then a else a.map (·.add (u * 1))) (n - u) (l.drop u) := by
  refine ⟨by rw [List.length_drop, h.len], by have := h.max; omega, fun i hi => ?_, fun x hx => h.wf x (List.mem_of_mem_drop hx)⟩
  obtain ⟨b, off, rfl, hc⟩ := h.cell (u + i) (by omega)
  rw [if_neg (by omega)]
  refine ⟨b, off + u, by simp [Addr.add_lit], ?_⟩
  rw [Nat.add_assoc, hc]
  simp [List.getD]

theorem Rd.take_ {w : World} {k a n l} (h : Rd w k a n l) {u : Nat} (hu : u ≤ n) : Rd w k a u (l.take u) := by
  refine ⟨by rw [List.length_take, h.len]; omega, by have := h.max; omega, fun i hi => ?_, fun x hx => h.wf x (List.mem_of_mem_take hx)⟩
  obtain ⟨b, off, rfl, hc⟩ := h.cell i (by omega)
  refine ⟨b, off, rfl, ?_⟩
  rw [hc]
  simp [List.getD, hi]

/-- s[u:] -/
theorem Rd.cutL {P : Program} {t e : TypeId} {w0 : World} {k a n l} {bytes : Nat} (E : Elt P t e k bytes) (h : Rd w0 k a n l) {c u : Nat} (hu : u ≤ n) (hnc : n ≤ c) :
    ∃ a', Rd w0 k a' (n - u) (l.drop u) ∧ ∀ (kl : IntKind) (w : World), (Instr.slice t (.slice a n c) (some (.int kl (u : Int))) none none).run P w = .ok (.slice a' (n - u) (c - u)) w := by
  refine ⟨_, h.drop_ hu hnc, fun kl w => ?_⟩
  rw [run_slice_l (P := P) w t a n c (by rw [E.elem]; exact E.ht) kl u (by omega) (by omega), E.elem, E.sz]
  simp [sliced, Result.andThen]

/-- s[u:v] -/
theorem Rd.cutLH {P : Program} {t e : TypeId} {w0 : World} {k a n l} {bytes : Nat} (E : Elt P t e k bytes) (h : Rd w0 k a n l) {c u v : Nat} (hu : u ≤ v) (hv : v ≤ n) (hnc : n ≤ c) :
    ∃ a', Rd w0 k a' (v - u) ((l.take v).drop u) ∧ ∀ (kl kh : IntKind) (w : World), (Instr.slice t (.slice a n c) (some (.int kl (u : Int))) (some (.int kh (v : Int))) none).run P w = .ok (.slice a' (v - u) (c - u)) w := by
  refine ⟨_, (h.take_ hv).drop_ (c := c) hu (by omega), fun kl kh w => ?_⟩
  rw [run_slice_lh (P := P) w t a n c (by rw [E.elem]; exact E.ht) kl kh u v (by omega) (by omega) (by omega), E.elem, E.sz]
  simp [sliced, Result.andThen]

theorem Own.cap {w : World} {base e k a n c l} (h : Own w base e k (.slice a n c) l) : n ≤ c := by
  rcases h.2 with ⟨hv, hn⟩ | ⟨g, cap, cur, hv, _, _, hnc, _⟩
  · cases hv; omega
  · cases hv; exact hnc

/-- s[:v] -/
theorem Rd.cutH {P : Program} {t e : TypeId} {w0 : World} {k a n l} {bytes : Nat} (E : Elt P t e k bytes) (h : Rd w0 k a n l) {c v : Nat} (hv : v ≤ n) (hnc : n ≤ c) :
    ∃ a', Rd w0 k a' v (l.take v) ∧ ∀ (kh : IntKind) (w : World), (Instr.slice t (.slice a n c) none (some (.int kh (v : Int))) none).run P w = .ok (.slice a' v c) w := by
  have h0 := (h.take_ hv).drop_ (c := c) (Nat.zero_le _) (by omega)
  rw [List.drop_zero, Nat.sub_zero] at h0
  refine ⟨_, h0, fun kh w => ?_⟩
  rw [run_slice_h (P := P) w t a n c (by rw [E.elem]; exact E.ht) kh v (by omega) (by omega), E.elem, E.sz]
  simp [sliced, Result.andThen]

theorem ret_eq {a b : Value} (h : a = b) : Ending.returned a = .returned b := by rw [h]

theorem drop_cons_d {α : Type} {l : List α} {d : α} {k : Nat} (h : k < l.length) : l.drop k = l.getD k d :: l.drop (k + 1) := by
  rw [List.drop_eq_getElem_cons h]; simp [List.getD, h]
theorem drop_cons {l : List Int} {k : Nat} (h : k < l.length) : l.drop k = l.getD k 0 :: l.drop (k + 1) := drop_cons_d h
theorem getD_take_snoc {α : Type} {l : List α} {d : α} {i : Nat} (h : i < l.length) : l.take (i + 1) = l.take i ++ [l.getD i d] := by
  rw [List.take_succ_eq_append_getElem h]; simp [List.getD, h]
theorem getD_mem {α : Type} {l : List α} {d : α} {i : Nat} (h : i < l.length) : l.getD i d ∈ l := by simp [List.getD, h]

end Go.Proofs.YtpabngicbfcdkaaDoor

/- GENERIC LAWS, over any program: rows of whatever cells that can be read or are the call's own; append, make, store. -/
namespace Go.Proofs.YtpabngicbfcdkaaDoor
open Go.RowKit
set_option linter.unusedVariables false
set_option linter.unusedSimpArgs false

/-- the cells of the n elements (size cells each) of a slice value with address a -/
structure RdG (w : World) (size : Nat) (a : Option Addr) (n : Nat) (xs : List Value) : Prop where
  len : xs.length = n * size
  cell : ∀ j u, xs[j]? = some u → ∃ b off, a = some ⟨b, off, none⟩ ∧ w.cell? ⟨b, off + j, none⟩ = some u

theorem RdG.below {w w' : World} {size a n xs} (h : RdG w size a n xs) (hb : Below w.heap.size w w') : RdG w' size a n xs :=
  ⟨h.len, fun j u hu => by
    obtain ⟨b, off, ha, hc⟩ := h.cell j u hu
    exact ⟨b, off, ha, below_cell hb hc⟩⟩

theorem RdG.news {w : World} {size a n xs} (h : RdG w size (some a) n xs) : ∀ j u, xs[j]? = some u → w.cell? (a.add j) = some u := by
  intro j u hu
  obtain ⟨b, off, ha, hc⟩ := h.cell j u hu
  cases ha
  rw [Addr.add_lit]; exact hc

/-- a new block of listed cells -/
theorem RdG.lits (w : World) (size : Nat) (e : TypeId) (n : Nat) (xs : List Value) (hl : xs.length = n * size) : RdG (w.alloc (.cells xs.toArray e)) size (some ⟨w.heap.size, 0, none⟩) n xs :=
  ⟨hl, fun j u hu => ⟨_, _, rfl, by rw [Nat.zero_add, World.cell?_alloc_new]; simpa using hu⟩⟩

/-- facts on a slice's type and its element's -/
structure EltG (P : Program) (t e : TypeId) (z : Value) (size bytes : Nat) : Prop where
  ht : P.underlying t = some (.slice e)
  hi : ∃ i, P.info? e = some i ∧ i.zero = some z ∧ i.size = size ∧ i.bytes = bytes
  hz : z.cells.size = size
  h0 : 0 < size

abbrev Row (w : World) (base : Nat) (e : TypeId) (size : Nat) (v : Value) (n : Nat) (xs : List Value) : Prop := w.ownsRow base e size v n xs

theorem Row.form {w : World} {base e size v n xs} (h : Row w base e size v n xs) : ∃ a c, v = .slice a n c := by
  rcases h.2 with ⟨rfl, h0⟩ | ⟨g, cap, cur, rfl, _⟩
  · exact ⟨none, 0, by rw [h0]⟩
  · exact ⟨_, _, rfl⟩

theorem Row.below {w w' : World} {base e size v n xs} (h : Row w base e size v n xs) (hb : Below w.heap.size w w') : Row w' base e size v n xs := by
  refine ⟨h.1, ?_⟩
  rcases h.2 with hn | ⟨g, cap, cur, rfl, hbb, hgg, rest⟩
  · exact .inl hn
  · exact .inr ⟨g, cap, cur, rfl, hbb, by rw [hb.block g (Array.getElem?_eq_some_iff.1 hgg).1]; exact hgg, rest⟩

theorem Row.mono {w : World} {base base' e size v n xs} (h : Row w base e size v n xs) (hb : base' ≤ base) : Row w base' e size v n xs := by
  refine ⟨h.1, ?_⟩
  rcases h.2 with hn | ⟨g, cap, cur, rfl, hbb, r⟩
  · exact .inl hn
  · exact .inr ⟨g, cap, cur, rfl, by omega, r⟩

theorem Row.cap {w : World} {base e size a n c m xs} (h : Row w base e size (.slice a n c) m xs) : n ≤ c := by
  rcases h.2 with ⟨hv, hn⟩ | ⟨g, cap, cur, hv, _, _, hnc, _⟩
  · cases hv; omega
  · cases hv; exact hnc

theorem Row.rdG {w : World} {base e size a n c xs} (h : Row w base e size (.slice a n c) n xs) : RdG w size a n xs := by
  refine ⟨h.1, fun j u hu => ?_⟩
  have hj : j < n * size := by rw [← h.1]; exact (List.getElem?_eq_some_iff.1 hu).1
  rcases h.2 with ⟨hv, hn⟩ | ⟨g, cap, cur, hv, _⟩
  · subst hn; omega
  · cases hv
    refine ⟨g, 0, rfl, ?_⟩
    rw [Nat.zero_add, World.ownsRow.cellAt h j hj, hu]

/-- two rows of different element types lie in different blocks -/
theorem Row.apart {w : World} {base base' e e' size size' v v' n n' xs xs'} (h : Row w base e size v n xs) (h' : Row w base' e' size' v' n' xs') (hne : e ≠ e') : v.ownBlock = none ∨ v.ownBlock ≠ v'.ownBlock := by
  rcases h.2 with ⟨rfl, _⟩ | ⟨g, cap, cur, rfl, _, hg, _⟩
  · exact .inl rfl
  · refine .inr ?_
    rcases h'.2 with ⟨rfl, _⟩ | ⟨g', cap', cur', rfl, _, hg', _⟩
    · simp [Value.ownBlock]
    · intro hh
      have hgg : g = g' := by simpa [Value.ownBlock] using hh
      subst hgg
      rw [hg] at hg'
      simp only [Option.some.injEq, Obj.cells.injEq] at hg'
      exact hne hg'.2.1

/-- a row stays while another one, of another element type, is written -/
theorem Row.keep {w w' : World} {base base' e e' size size' v v' n n' xs xs'} (h : Row w base e size v n xs) (h' : Row w base' e' size' v' n' xs') (hne : e ≠ e') (hg : w.grownBy w' v'.ownBlock) : Row w' base e size v n xs :=
  World.ownsRow.kept h hg (h.apart h' hne)

theorem Row.grown {w w' : World} {base e size v n xs} (ho : Row w base e size v n xs) (hg : w.grownBy w' v.ownBlock) (hb : base ≤ w.heap.size) : Below base w w' :=
  (Below.refl _ _).grown hg hb (fun x hx => (World.ownsRow.lt ho x hx).1)

/-- append of readable cells to a row of the call's own -/
theorem app_row {P : Program} {w : World} {ops : Array Oper} {rest : List Oper} {o : Oper} {a : Act} {Q : Exit → Act → World → Prop} (s x : Operand) {t e : TypeId} {z : Value} {size bytes : Nat} (E : EltG P t e z size bytes)
    (hgd : o.guard = none) (ho : o.op = .call { callee := .builtin .append, args := #[s, x], argTypes := #[t, t] })
    (base : Nat) (v : Value) (n : Nat) (xs : List Value) (hs : a.eval s = v) (hown : Row w base e size v n xs) (ad : Option Addr) (m c : Nat) (news : List Value) (hx : a.eval x = .slice ad m c) (hr : RdG w size ad m news) (h1 : ∀ u ∈ news, u.oneCell' = true)
    (hlen : (n + m) * bytes ≤ 140737488355328) (hpos : 0 < bytes) (hbase : base ≤ w.heap.size)
    (h : ∀ a' c' w', Row w' base e size (.slice a' (n + m) c') (n + m) (xs ++ news) → w.grownBy w' v.ownBlock → wpList P ops Q rest (a.put o.dst (.slice a' (n + m) c')) w') : wpList P ops Q (o :: rest) a w := by
  obtain ⟨i, hi, hz, hsz, hby⟩ := E.hi
  have hb2 : (n + m) ≤ 140737488355328 := Nat.le_trans (Nat.le_mul_of_pos_right _ hpos) hlen
  cases ad with
  | some ad =>
    refine wpList_append_own w hgd s x t ho base e i z size bytes E.ht hi hz hsz hby E.hz E.h0 v n xs hs hown ad m c news hx hr.len hr.news h1 (by unfold maxLen; omega) hlen hbase ?_
    intro v' w' ho' hg' _
    obtain ⟨a', c', rfl⟩ := Row.form ho'
    exact h a' c' w' ho' hg'
  | none =>
    have hl0 : news = [] := by
      cases news with
      | nil => rfl
      | cons u r => obtain ⟨b, off, ha, _⟩ := hr.cell 0 u rfl; cases ha
    subst hl0
    have h0 : m = 0 := by
      have := hr.len
      have h3 := E.h0
      simp only [List.length_nil] at this
      rcases Nat.mul_eq_zero.1 this.symm with h4 | h4 <;> omega
    subst h0
    refine wpList_plain hgd fun K hK' => ?_
    have hrun : (Builtin.append_ #[t, t] o.type #[v, .slice none 0 c]).run P w = .ok v w := by
      rcases hown.2 with ⟨rfl, h0⟩ | ⟨g, cap, cur, rfl, _, _, hnc, _⟩
      · simp [Builtin.append_, run_underlying E.ht, sizeOf, typeInfo, hi, Builtin.lenOf, Builtin.firstCells]
      · simp [Builtin.append_, run_underlying E.ht, sizeOf, typeInfo, hi, Builtin.lenOf, Builtin.firstCells, hnc, storeCells]
    unfold Oper.wp
    simp [execOp, ho, resolve, invoke, builtin, hs, hx, hrun, Result.andThen]
    obtain ⟨a', c', rfl⟩ := Row.form hown
    refine hK' _ _ ?_
    have := h a' c' w (by simpa using hown) (World.grownBy.refl _ _)
    simpa using this

/-- make([]T, n) -/
theorem make_row {P : Program} {w : World} {ops : Array Oper} {rest : List Oper} {o : Oper} {a : Act} {Q : Exit → Act → World → Prop} {t e : TypeId} {z : Value} {size bytes : Nat} (E : EltG P t e z size bytes)
    (hgd : o.guard = none) (s x : Operand) (ho : o.op = Op.makeSlice t s x) (base : Nat) (kl kc : IntKind) (L C : Int) (n : Nat) (hs : a.eval s = .int kl L) (hx : a.eval x = .int kc C) (hL : L = (n : Int)) (hC : C = (n : Int))
    (hb : n * bytes ≤ 281474976710656) (hn : n ≤ 9223372036854775807) (hbase : base ≤ w.heap.size)
    (h : ∀ w', Row w' base e size (.slice (some ⟨w.heap.size, 0, none⟩) n n) n (madeCells z.cells (n * size)).toList → w.grownBy w' none → wpList P ops Q rest (a.put o.dst (.slice (some ⟨w.heap.size, 0, none⟩) n n)) w') : wpList P ops Q (o :: rest) a w := by
  obtain ⟨i, hi, hz, hsz, hby⟩ := E.hi
  exact wpList_make_full w hgd s x t ho base e i z size E.ht hi hz hsz kl kc L C n hs hx hL hC (by rw [hby, Nat.mul_comm]; exact hb) (by unfold maxLen; omega) hbase h

theorem splice_take {α : Type} (L : List α) (m j : Nat) (news : List α) (h : j + news.length ≤ m) (hm : m ≤ L.length) :
    (L.take j ++ news ++ L.drop (j + news.length)).take m = (L.take m).take j ++ news ++ (L.take m).drop (j + news.length) := by
  have e1 : (L.take j ++ news).length = j + news.length := by rw [List.length_append, List.length_take]; omega
  rw [List.take_append, List.take_of_length_le (by omega), e1, List.drop_take, List.take_take, Nat.min_eq_left (by omega)]

/-- a store into a row of the call's own -/
theorem store_row {P : Program} {w : World} {ops : Array Oper} {rest : List Oper} {o : Oper} {a : Act} {Q : Exit → Act → World → Prop} (hgd : o.guard = none) (ty : TypeId) (x y : Operand) (ho : o.op = .store ty x y)
    (g j : Nat) (hx : a.eval x = .pointer (some ⟨g, j, none⟩)) (u : Value) (hy : a.eval y = u) (news : List Value) (hn : u.cells.toList = news) (hi : (P.info? ty).map (·.size) = some news.length) (h1 : ∀ v ∈ news, v.oneCell' = true)
    (base : Nat) (e : TypeId) (size n cap : Nat) (xs : List Value) (hown : Row w base e size (.slice (some ⟨g, 0, none⟩) n cap) n xs) (hj : j + news.length ≤ xs.length)
    (h : ∀ w', Row w' base e size (.slice (some ⟨g, 0, none⟩) n cap) n (xs.take j ++ news ++ xs.drop (j + news.length)) → w.grownBy w' (some g) → wpList P ops Q rest (a.put o.dst undef) w') : wpList P ops Q (o :: rest) a w := by
  refine wpList_plain hgd fun K hK => ?_
  rcases hown.2 with ⟨hv, _⟩ | ⟨g', cap', cur, hv, hbg, hg, hnc, hcm, hcs, htake⟩
  · cases hv
  · cases hv
    have hxl := hown.1
    have hle : n * size ≤ cap * size := Nat.mul_le_mul_right _ hnc
    have hst := run_storeCells_at P g j e news 0 cur w hg (by omega) h1
    simp only [Nat.add_zero] at hst
    have hrow : (w.setRow g (cur.toList.take j ++ news ++ cur.toList.drop (j + news.length)).toArray).heap[g]? = _ := setRow_heap w g cur _ e _ hg
    refine (?_ : Oper.wp P o a w K Q)
    cases hq : P.info? ty with
    | none => simp [hq] at hi
    | some i =>
      have hs : i.size = news.length := by simpa [hq] using hi
      have hc : u.cells = news.toArray := by rw [← hn]
      unfold Oper.wp execOp
      have hrun : (storeVar ty ⟨g, j, none⟩ u).run P w = .ok () (w.setRow g (cur.toList.take j ++ news ++ cur.toList.drop (j + news.length)).toArray) := by
        simp [storeVar, sizeOf, typeInfo, hq, hc, hs, hst]
      simp only [ho, hx, hy, Instr.storeAt, Instr.sureAddr, Sem.run_bind, Sem.run_pure, Result.andThen_ok, hrun]
      refine hK _ _ (h _ ⟨by simp; omega, .inr ⟨g, cap, _, rfl, hbg, hrow, hnc, hcm, by simp; omega, ?_⟩⟩ ⟨rfl, rfl, rfl, by simp, fun k _ hk => setRow_other w g k _ (fun e => hk (by simp [e]))⟩)
      subst htake
      exact splice_take cur.toList (n * size) j news (by omega) (by rw [Array.length_toList]; omega)

end Go.Proofs.YtpabngicbfcdkaaDoor

/- GENERIC LAWS, over any program: what a call may have written ('Fr'), and what stands besides; append, with where the new row lies. -/
namespace Go.Proofs.YtpabngicbfcdkaaDoor
open Go.RowKit
set_option linter.unusedVariables false
set_option linter.unusedSimpArgs false

/-- what stood outside S is as it was -/
structure Fr (S : Nat → Prop) (w w' : World) : Prop where
  os : w'.os = w.os
  tape : w'.tape = w.tape
  output : w'.output = w.output
  size : w.heap.size ≤ w'.heap.size
  block : ∀ i, i < w.heap.size → ¬ S i → w'.heap[i]? = w.heap[i]?

theorem Fr.refl (S : Nat → Prop) (w : World) : Fr S w w := ⟨rfl, rfl, rfl, Nat.le_refl _, fun _ _ _ => rfl⟩
theorem Fr.then {S S' : Nat → Prop} {a b c : World} (h : Fr S a b) (k : Fr S' b c) (hs : ∀ i, S' i → S i ∨ a.heap.size ≤ i) : Fr S a c :=
  ⟨k.os.trans h.os, k.tape.trans h.tape, k.output.trans h.output, Nat.le_trans h.size k.size, fun i hi hn => (k.block i (Nat.lt_of_lt_of_le hi h.size) (fun h2 => by rcases hs i h2 with h3 | h3; exact hn h3; omega)).trans (h.block i hi hn)⟩
theorem Fr.trans {S : Nat → Prop} {a b c : World} (h : Fr S a b) (k : Fr S b c) : Fr S a c := h.then k fun _ h => .inl h
theorem Fr.mono {S T : Nat → Prop} {a b : World} (h : Fr S a b) (hs : ∀ i, S i → T i) : Fr T a b := ⟨h.os, h.tape, h.output, h.size, fun i hi hn => h.block i hi fun h2 => hn (hs i h2)⟩
theorem Fr.of_below {S : Nat → Prop} {a b : World} (h : Below a.heap.size a b) : Fr S a b := ⟨h.os, h.tape, h.output, h.size, fun i hi _ => h.block i hi⟩
theorem Fr.of_grown {S : Nat → Prop} {a b : World} {row : Option Nat} (h : a.grownBy b row) (hr : ∀ k, row = some k → S k) : Fr S a b :=
  ⟨h.os, h.tape, h.output, h.size, fun i hi hn => h.block i hi fun e => hn (hr i e.symm)⟩
theorem Fr.setCell {S : Nat → Prop} {a b : World} (h : Fr S a b) {p : Addr} (hp : S p.block) (u : Value) : Fr S a (b.setCell p u) :=
  h.trans ⟨rfl, rfl, rfl, by simp [World.setCell], fun k _ hn => Below.heap_setCell _ _ _ _ (fun e => hn (e ▸ hp))⟩
theorem Fr.alloc {S : Nat → Prop} {a b : World} (h : Fr S a b) (o : Obj) : Fr S a (b.alloc o) := h.trans (.of_below (below_alloc _ _))
theorem Fr.drew {S : Nat → Prop} {a b : World} (h : Fr S a b) : Fr S a b.drew := ⟨h.os, h.tape, h.output, h.size, h.block⟩
theorem Fr.cell {S : Nat → Prop} {a b : World} (h : Fr S a b) {x : Addr} {v : Value} (hc : a.cell? x = some v) (hn : ¬ S x.block) : b.cell? x = some v :=
  (World.cell?_of_block (w := a) (h.block x.block (World.block_lt_of_cell? a _ hc) hn)).trans hc
theorem Fr.frozen {S : Nat → Prop} {a b : World} (h : Fr S a b) {x : Addr} (hl : x.block < a.heap.size) (hn : ¬ S x.block) : b.frozen? x = a.frozen? x :=
  World.frozen?_of_block (w := a) (h.block x.block hl hn)
theorem Fr.below {S : Nat → Prop} {a b : World} (h : Fr S a b) {B : Nat} (hs : ∀ i, S i → B ≤ i) (hB : B ≤ a.heap.size) : Below B a b :=
  ⟨h.os, h.tape, h.output, h.size, fun i hi => h.block i (by omega) fun h2 => by have := hs i h2; omega⟩

/-- a readable list of integers, in blocks of T -/
structure RdF (w : World) (T : Nat → Prop) (k : IntKind) (a : Option Addr) (n : Nat) (l : List Int) : Prop where
  rd : Rd w k a n l
  foot : ∀ x, a = some x → 0 < n → T x.block
theorem RdF.fr {w w' : World} {S T : Nat → Prop} {k a n l} (h : RdF w T k a n l) (hf : Fr S w w') (hd : ∀ i, T i → ¬ S i) : RdF w' T k a n l :=
  ⟨⟨h.rd.len, h.rd.max, fun i hi => by
    obtain ⟨b, off, ha, hc⟩ := h.rd.cell i hi
    exact ⟨b, off, ha, hf.cell hc (hd b (h.foot _ ha (by omega)))⟩, h.rd.wf⟩, h.foot⟩
theorem RdF.below {w w' : World} {T : Nat → Prop} {k a n l} (h : RdF w T k a n l) (hb : Below w.heap.size w w') : RdF w' T k a n l := ⟨h.rd.below hb, h.foot⟩
theorem RdF.mono {w : World} {T T' : Nat → Prop} {k a n l} (h : RdF w T k a n l) (hT : ∀ i, T i → T' i) : RdF w T' k a n l := ⟨h.rd, fun x hx hn => hT _ (h.foot x hx hn)⟩
theorem RdF.lt {w : World} {T : Nat → Prop} {k a n l} (h : RdF w T k a n l) : RdF w (fun i => T i ∧ i < w.heap.size) k a n l :=
  ⟨h.rd, fun x hx hn => ⟨h.foot x hx hn, h.rd.lt x hx hn⟩⟩

theorem Row.fr {w w' : World} {S : Nat → Prop} {base e size v n xs} (h : Row w base e size v n xs) (hf : Fr S w w') (hd : ∀ g, v.ownBlock = some g → ¬ S g) : Row w' base e size v n xs := by
  refine ⟨h.1, ?_⟩
  rcases h.2 with hn | ⟨g, cap, cur, rfl, hbb, hgg, rest⟩
  · exact .inl hn
  · exact .inr ⟨g, cap, cur, rfl, hbb, by rw [hf.block g (Array.getElem?_eq_some_iff.1 hgg).1 (hd g rfl)]; exact hgg, rest⟩
theorem Row.block_lt {w : World} {base e size v n xs g} (h : Row w base e size v n xs) (hg : v.ownBlock = some g) : g < w.heap.size ∧ base ≤ g := by
  rcases h.2 with ⟨rfl, _⟩ | ⟨g', cap, cur, rfl, hbb, hgg, rest⟩
  · cases hg
  · cases hg; exact ⟨(Array.getElem?_eq_some_iff.1 hgg).1, hbb⟩

/-- append of readable cells to a row of the call's own: where the new row lies is told -/
theorem app_row_at {P : Program} {w : World} {ops : Array Oper} {rest : List Oper} {o : Oper} {a : Act} {Q : Exit → Act → World → Prop} (s x : Operand) {t e : TypeId} {z : Value} {size bytes : Nat} (E : EltG P t e z size bytes)
    (hgd : o.guard = none) (ho : o.op = .call { callee := .builtin .append, args := #[s, x], argTypes := #[t, t] })
    (base : Nat) (v : Value) (n : Nat) (xs : List Value) (hs : a.eval s = v) (hown : Row w base e size v n xs) (ad : Option Addr) (m c : Nat) (news : List Value) (hx : a.eval x = .slice ad m c) (hr : RdG w size ad m news) (h1 : ∀ u ∈ news, u.oneCell' = true)
    (hlen : (n + m) * bytes ≤ 140737488355328) (hpos : 0 < bytes) (hbase : base ≤ w.heap.size)
    (h : ∀ a' c' w', Row w' base e size (.slice a' (n + m) c') (n + m) (xs ++ news) → w.grownBy w' v.ownBlock → ((Value.slice a' (n + m) c').ownBlock = v.ownBlock ∨ (Value.slice a' (n + m) c').ownBlock = some w.heap.size) → wpList P ops Q rest (a.put o.dst (.slice a' (n + m) c')) w') : wpList P ops Q (o :: rest) a w := by
  obtain ⟨i, hi, hz, hsz, hby⟩ := E.hi
  have hb2 : (n + m) ≤ 140737488355328 := Nat.le_trans (Nat.le_mul_of_pos_right _ hpos) hlen
  cases ad with
  | some ad =>
    refine wpList_append_own_at w hgd s x t ho base e i z size bytes E.ht hi hz hsz hby E.hz E.h0 v n xs hs hown ad m c news hx hr.len hr.news h1 (by unfold maxLen; omega) hlen hbase ?_
    intro v' w' ho' hg' _ hat
    obtain ⟨a', c', rfl⟩ := Row.form ho'
    exact h a' c' w' ho' hg' hat
  | none =>
    have hl0 : news = [] := by
      cases news with
      | nil => rfl
      | cons u r => obtain ⟨b, off, ha, _⟩ := hr.cell 0 u rfl; cases ha
    subst hl0
    have h0 : m = 0 := by
      have := hr.len
      have h3 := E.h0
      simp only [List.length_nil] at this
      rcases Nat.mul_eq_zero.1 this.symm with h4 | h4 <;> omega
    subst h0
    refine wpList_plain hgd fun K hK' => ?_
    have hrun : (Builtin.append_ #[t, t] o.type #[v, .slice none 0 c]).run P w = .ok v w := by
      rcases hown.2 with ⟨rfl, h0⟩ | ⟨g, cap, cur, rfl, _, _, hnc, _⟩
      · simp [Builtin.append_, run_underlying E.ht, sizeOf, typeInfo, hi, Builtin.lenOf, Builtin.firstCells]
      · simp [Builtin.append_, run_underlying E.ht, sizeOf, typeInfo, hi, Builtin.lenOf, Builtin.firstCells, hnc, storeCells]
    unfold Oper.wp
    simp [execOp, ho, resolve, invoke, builtin, hs, hx, hrun, Result.andThen]
    obtain ⟨a', c', rfl⟩ := Row.form hown
    refine hK' _ _ ?_
    have := h a' c' w (by simpa using hown) (World.grownBy.refl _ _) (.inl rfl)
    simpa using this

/-- the same at a step of a region that draws its order -/
theorem step_app_row_at {P : Program} {w : World} {ops : Array Oper} {o : Oper} {a : Act} {K : Act → World → Prop} {Q : Exit → Act → World → Prop} {G : Prop} (s x : Operand) {t e : TypeId} {z : Value} {size bytes : Nat} (E : EltG P t e z size bytes)
    (hgd : o.guard = none) (ho : o.op = .call { callee := .builtin .append, args := #[s, x], argTypes := #[t, t] })
    (base : Nat) (v : Value) (n : Nat) (xs : List Value) (hs : a.eval s = v) (hown : Row w base e size v n xs) (ad : Option Addr) (m c : Nat) (news : List Value) (hx : a.eval x = .slice ad m c) (hr : RdG w size ad m news) (h1 : ∀ u ∈ news, u.oneCell' = true)
    (hlen : (n + m) * bytes ≤ 140737488355328) (hpos : 0 < bytes) (hbase : base ≤ w.heap.size)
    (h : ∀ a' c' w', Row w' base e size (.slice a' (n + m) c') (n + m) (xs ++ news) → w.grownBy w' v.ownBlock → ((Value.slice a' (n + m) c').ownBlock = v.ownBlock ∨ (Value.slice a' (n + m) c').ownBlock = some w.heap.size) → K (a.put o.dst (.slice a' (n + m) c')) w') : if Region.wanted o (yielded ops a.tmps) = true then Oper.wp P o a w K Q else G := by
  have hw : Region.wanted o (yielded ops a.tmps) = true := by simp [Region.wanted, hgd]
  rw [if_pos hw]
  obtain ⟨i, hi, hz, hsz, hby⟩ := E.hi
  have hb2 : (n + m) ≤ 140737488355328 := Nat.le_trans (Nat.le_mul_of_pos_right _ hpos) hlen
  cases ad with
  | some ad =>
    obtain ⟨v', w', hrun, ho', hg', _, hat⟩ := run_append_own_at (P := P) w base t o.type e i z size bytes E.ht hi hz hsz hby E.hz E.h0 v n xs hown ad m c news hr.len hr.news h1 (by unfold maxLen; omega) hlen hbase
    obtain ⟨a', c', rfl⟩ := Row.form ho'
    unfold Oper.wp execOp
    simp only [ho, resolve, invoke, builtin, Sem.run_bind, Sem.run_pure, Result.andThen_ok, List.map_toArray, List.map_cons, List.map_nil, hs, hx, hrun]
    exact h a' c' w' ho' hg' hat
  | none =>
    have hl0 : news = [] := by
      cases news with
      | nil => rfl
      | cons u r => obtain ⟨b, off, ha, _⟩ := hr.cell 0 u rfl; cases ha
    subst hl0
    have h0 : m = 0 := by
      have := hr.len
      have h3 := E.h0
      simp only [List.length_nil] at this
      rcases Nat.mul_eq_zero.1 this.symm with h4 | h4 <;> omega
    subst h0
    have hrun : (Builtin.append_ #[t, t] o.type #[v, .slice none 0 c]).run P w = .ok v w := by
      rcases hown.2 with ⟨rfl, h0⟩ | ⟨g, cap, cur, rfl, _, _, hnc, _⟩
      · simp [Builtin.append_, run_underlying E.ht, sizeOf, typeInfo, hi, Builtin.lenOf, Builtin.firstCells]
      · simp [Builtin.append_, run_underlying E.ht, sizeOf, typeInfo, hi, Builtin.lenOf, Builtin.firstCells, hnc, storeCells]
    unfold Oper.wp execOp
    simp only [ho, resolve, invoke, builtin, Sem.run_bind, Sem.run_pure, Result.andThen_ok, List.map_toArray, List.map_cons, List.map_nil, hs, hx, hrun]
    obtain ⟨a', c', rfl⟩ := Row.form hown
    have := h a' c' w (by simpa using hown) (World.grownBy.refl _ _) (.inl rfl)
    simpa [Oper.upon] using this

theorem set_same {w : World} {a : Addr} {u v : Value} (h : w.cell? a = some u) : (w.setCell a v).cell? a = some v := World.cell?_setCell_same' w a v (by rw [h]; rfl)
theorem set_other {w : World} {a b : Addr} {u v : Value} (hne : a ≠ b) (h : w.cell? b = some u) : (w.setCell a v).cell? b = some u := by
  have := World.cell?_setCell_other (w := w) (a := a) (b := b) (v := v) hne
  rw [this]; exact h
theorem RdG.drew {w : World} {size a n xs} (h : RdG w size a n xs) : RdG w.drew size a n xs := ⟨h.len, h.cell⟩
theorem Row.drew {w : World} {base e size v n xs} (h : Row w base e size v n xs) : Row w.drew base e size v n xs := h
theorem Row.alloc {w : World} {base e size v n xs} (h : Row w base e size v n xs) (o : Obj) : Row (w.alloc o) base e size v n xs := World.ownsRow.alloc h o

theorem heap_new_at {w : World} {o : Obj} {k : Nat} (hk : k = w.heap.size) : (w.alloc o).heap[k]? = some o := by subst hk; exact heap_alloc_new w o
theorem heap_new_at2 {w : World} {o o2 : Obj} {k : Nat} (hk : k = w.heap.size) : ((w.alloc o).alloc o2).heap[k]? = some o := (Below.heap_alloc _ _ _ (by subst hk; simp)).trans (heap_new_at hk)

theorem row_block {w : World} {g : Nat} {e : TypeId} {size : Nat} (h : w.heap[g]? = some (.cells #[] e (0, 0))) : Row w 0 e size (.slice (some ⟨g, 0, none⟩) 0 0) 0 [] :=
  ⟨by simp, .inr ⟨g, 0, #[], rfl, Nat.zero_le _, h, Nat.le_refl _, Nat.zero_le _, by simp, by simp⟩⟩
theorem rdG_block {w : World} {g : Nat} {e : TypeId} {size n : Nat} {cs : Array Value} (h : w.heap[g]? = some (.cells cs e (0, 0))) (hl : cs.size = n * size) : RdG w size (some ⟨g, 0, none⟩) n cs.toList :=
  ⟨by simpa using hl, fun j u hu => ⟨g, 0, rfl, by rw [Nat.zero_add]; simp only [World.cell?, h]; simpa using hu⟩⟩

end Go.Proofs.YtpabngicbfcdkaaDoor

/- GENERIC, over any program: maps keyed by addresses, or by what is made of addresses: what such a map holds, key by key; a look-up, a store. -/
namespace Go.Proofs.YtpabngicbfcdkaaDoor
open Go.RowKit
set_option linter.unusedVariables false
set_option linter.unusedSimpArgs false

/-- keys that are compared by asking -/
structure PKey (P : Program) (KT : TypeId) {κ : Type} (enc : κ → Value) (ok : World → κ → Prop) : Prop where
  inj : ∀ x y, enc x = enc y → x = y
  und : ∃ d, P.underlying KT = some d ∧ ∀ x y, Instr.sameNow d (enc x) (enc y) = none
  chk : ∀ (w : World) (em : Bool) (x : κ), (Instr.checkKey em 10000 KT (enc x)).run P w = .ok () w
  eq : ∀ (w : World) (x y : κ), ok w x → ok w y → ∃ b, (Op.equal KT (enc x) (enc y)).run P w = .ok b w ∧ (b = true ↔ x = y)
  stay : ∀ (w : World) (x : κ), (Instr.keyThatStays (enc x) (enc x)).run P w = .ok (enc x) w

/-- block bm is a map that holds f -/
def PMap (w : World) {κ : Type} (enc : κ → Value) (bm : Nat) (f : κ → Option Value) : Prop :=
  ∃ es clock, w.heap[bm]? = some (.map es clock) ∧ (∀ e ∈ es.toList, ∃ x, e.key = enc x) ∧ es.toList.Pairwise (fun e e' => e.key ≠ e'.key) ∧ ∀ x v, f x = some v ↔ ∃ e ∈ es.toList, e.key = enc x ∧ e.val = v

theorem PMap.fr {w w' : World} {κ : Type} {enc : κ → Value} {bm : Nat} {f : κ → Option Value} {S : Nat → Prop} (h : PMap w enc bm f) (hf : Fr S w w') (hn : ¬ S bm) : PMap w' enc bm f := by
  obtain ⟨es, clock, hb, r⟩ := h
  exact ⟨es, clock, (hf.block bm (Array.getElem?_eq_some_iff.1 hb).1 hn).trans hb, r⟩
theorem PMap.below {w w' : World} {κ : Type} {enc : κ → Value} {bm : Nat} {f : κ → Option Value} (h : PMap w enc bm f) (hb : Below w.heap.size w w') : PMap w' enc bm f := h.fr (S := fun _ => False) (.of_below hb) (fun h => h)
theorem PMap.lt {w : World} {κ : Type} {enc : κ → Value} {bm : Nat} {f : κ → Option Value} (h : PMap w enc bm f) : bm < w.heap.size := by
  obtain ⟨es, clock, hb, r⟩ := h
  exact (Array.getElem?_eq_some_iff.1 hb).1
theorem PMap.made (w : World) {κ : Type} (enc : κ → Value) : PMap (w.alloc (.map #[] 0)) enc w.heap.size (fun _ => none) :=
  ⟨#[], 0, heap_alloc_new w _, by simp, by simp, by simp⟩

section
variable {P : Program} {KT T E : TypeId} {κ : Type} {enc : κ → Value} {ok : World → κ → Prop} {w : World} {bm : Nat} {f : κ → Option Value}

theorem findAsking_run (K : PKey P KT enc ok) {x : κ} (hx : ok w x) : ∀ (es : List MapEntry) (i : Nat), (∀ e ∈ es, ∃ y, e.key = enc y ∧ ok w y) →
    ((Instr.findAsking KT (enc x) es i).run P w = .ok none w ∧ ∀ e ∈ es, e.key ≠ enc x) ∨ ∃ j e, (Instr.findAsking KT (enc x) es i).run P w = .ok (some (i + j, e.val)) w ∧ es[j]? = some e ∧ e.key = enc x
  | [], i, _ => .inl ⟨by simp [Instr.findAsking], by simp⟩
  | e :: r, i, he => by
    obtain ⟨y, hy, hoy⟩ := he e (by simp)
    obtain ⟨b, hb, hbi⟩ := K.eq w x y hx hoy
    cases b with
    | true =>
      obtain rfl := hbi.1 rfl
      exact .inr ⟨0, e, by simp [Instr.findAsking, hy, hb], rfl, hy⟩
    | false =>
      have hne : e.key ≠ enc x := by
        rw [hy]; intro h
        have := hbi.2 (K.inj _ _ h).symm
        cases this
      rcases findAsking_run K hx r (i + 1) (fun e' h' => he e' (by simp [h'])) with ⟨h1, h2⟩ | ⟨j, e', h1, h2, h3⟩
      · refine .inl ⟨by simp [Instr.findAsking, hy, hb, h1], fun e' h' => ?_⟩
        rcases List.mem_cons.1 h' with rfl | h'
        · exact hne
        · exact h2 e' h'
      · exact .inr ⟨j + 1, e', by simp [Instr.findAsking, hy, hb, h1]; omega, by simpa using h2, h3⟩

theorem findKey_run (K : PKey P KT enc ok) {x : κ} (hx : ok w x) (es : List MapEntry) (he : ∀ e ∈ es, ∃ y, e.key = enc y ∧ ok w y) :
    ((Instr.findKey KT (enc x) es).run P w = .ok none w ∧ ∀ e ∈ es, e.key ≠ enc x) ∨ ∃ j e, (Instr.findKey KT (enc x) es).run P w = .ok (some (j, e.val)) w ∧ es[j]? = some e ∧ e.key = enc x := by
  obtain ⟨d, hd, hn⟩ := K.und
  cases es with
  | nil => exact .inl ⟨by simp [Instr.findKey, run_underlying hd, Instr.findNow], by simp⟩
  | cons e r =>
    obtain ⟨y, hy, _⟩ := he e (by simp)
    have h0 : Instr.findNow d (enc x) (e :: r) 0 = none := by simp [Instr.findNow, hy, hn]
    rcases findAsking_run K hx (e :: r) 0 he with ⟨h1, h2⟩ | ⟨j, e', h1, h2, h3⟩
    · exact .inl ⟨by simp [Instr.findKey, run_underlying hd, h0, h1], h2⟩
    · exact .inr ⟨j, e', by simp [Instr.findKey, run_underlying hd, h0, h1], h2, h3⟩

theorem PMap.keys (h : PMap w enc bm f) (K : PKey P KT enc ok) (hok : ∀ y v, f y = some v → ok w y) {es : Array MapEntry} {clock : Nat} (hb : w.heap[bm]? = some (.map es clock)) : ∀ e ∈ es.toList, ∃ y, e.key = enc y ∧ ok w y := by
  obtain ⟨es', clock', hb', h1, h2, h3⟩ := h
  rw [hb] at hb'
  cases hb'
  intro e he
  obtain ⟨y, hy⟩ := h1 e he
  exact ⟨y, hy, hok y e.val ((h3 y e.val).2 ⟨e, he, hy, rfl⟩)⟩

theorem PMap.look (h : PMap w enc bm f) (K : PKey P KT enc ok) (hok : ∀ y v, f y = some v → ok w y) (hT : P.underlying T = some (.map KT E)) {z : Value} (hz : (zeroValue E).run P w = .ok z w) {x : κ} (hx : ok w x) :
    (Instr.lookup T (.map (some bm)) (enc x) false).run P w = .ok ((f x).getD z) w := by
  have hh := h
  obtain ⟨es, clock, hb, h1, h2, h3⟩ := h
  have hk := hh.keys K hok hb
  rcases findKey_run K hx es.toList hk with ⟨g1, g2⟩ | ⟨j, e, g1, g2, g3⟩
  · have hf : f x = none := by
      cases hf : f x with
      | none => rfl
      | some v => obtain ⟨e, he, h4, _⟩ := (h3 x v).1 hf; exact absurd h4 (g2 e he)
    rw [hf]
    simp [Instr.lookup, run_underlying hT, MapKept.run_getObj_map hb, K.chk, g1, hz]
  · have hf : f x = some e.val := (h3 x e.val).2 ⟨e, List.mem_of_getElem? g2, g3, rfl⟩
    rw [hf]
    simp [Instr.lookup, run_underlying hT, MapKept.run_getObj_map hb, K.chk, g1]

theorem pair_key {es : List MapEntry} (h : es.Pairwise (fun e e' => e.key ≠ e'.key)) {i j : Nat} {a b : MapEntry} (ha : es[i]? = some a) (hb : es[j]? = some b) (hk : a.key = b.key) : i = j := by
  rw [List.pairwise_iff_getElem] at h
  have hi := (List.getElem?_eq_some_iff.1 ha)
  have hj := (List.getElem?_eq_some_iff.1 hb)
  rcases Nat.lt_trichotomy i j with h1 | h1 | h1
  · exact absurd (by rw [hi.2, hj.2]; exact hk) (h i j hi.1 hj.1 h1)
  · exact h1
  · exact absurd (by rw [hi.2, hj.2]; exact hk.symm) (h j i hj.1 hi.1 h1)

theorem PMap.update [DecidableEq κ] (h : PMap w enc bm f) (K : PKey P KT enc ok) (hok : ∀ y v, f y = some v → ok w y) (hT : P.underlying T = some (.map KT E)) {x : κ} (hx : ok w x) (v : Value) :
    ∃ w', (Instr.mapUpdate T (.map (some bm)) (enc x) v).run P w = .ok () w' ∧ PMap w' enc bm (fun y => if y = x then some v else f y) ∧ w.grownBy w' (some bm) := by
  have hh := h
  obtain ⟨es, clock, hb, h1, h2, h3⟩ := h
  have hk := hh.keys K hok hb
  have hlt := (Array.getElem?_eq_some_iff.1 hb).1
  have grown : ∀ o, w.grownBy (ChangeMaps.setBlock w bm o) (some bm) := fun o => ⟨rfl, rfl, rfl, by simp [ChangeMaps.setBlock], fun k hk hne => by
    show (w.heap.setIfInBounds bm o)[k]? = _
    rw [Array.getElem?_setIfInBounds_ne (fun e => hne (by rw [e]))]⟩
  have new : ∀ o, (ChangeMaps.setBlock w bm o).heap[bm]? = some o := fun o => by
    show (w.heap.setIfInBounds bm o)[bm]? = _
    rw [Array.getElem?_setIfInBounds_self_of_lt hlt]
  rcases findKey_run K hx es.toList hk with ⟨g1, g2⟩ | ⟨j, e, g1, g2, g3⟩
  · refine ⟨ChangeMaps.setBlock w bm (.map (es.push { key := enc x, val := v, born := clock }) (clock + 1)), ?_, ⟨_, _, new _, ?_, ?_, ?_⟩, grown _⟩
    · simp [Instr.mapUpdate, run_underlying hT, MapKept.run_getObj_map hb, K.chk, g1, MapKept.run_setObj_map _ hb, ChangeMaps.setBlock]
    · intro e he
      simp only [Array.toList_push, List.mem_append, List.mem_singleton] at he
      rcases he with he | rfl
      · exact h1 e he
      · exact ⟨x, rfl⟩
    · simp only [Array.toList_push]
      rw [List.pairwise_append]
      refine ⟨h2, by simp, fun a ha b hb => ?_⟩
      rw [List.mem_singleton] at hb
      subst hb
      exact g2 a ha
    · intro y u
      simp only [Array.toList_push, List.mem_append, List.mem_singleton]
      by_cases e : y = x
      · subst e
        rw [if_pos rfl]
        constructor
        · intro hu; cases hu; exact ⟨_, .inr rfl, rfl, rfl⟩
        · rintro ⟨e, he | rfl, h4, h5⟩
          · exact absurd h4 (g2 e he)
          · subst h5; rfl
      · rw [if_neg e, h3]
        constructor
        · rintro ⟨e', he, r⟩; exact ⟨e', .inl he, r⟩
        · rintro ⟨e', he | rfl, h4, h5⟩
          · exact ⟨e', he, h4, h5⟩
          · exact absurd (K.inj _ _ h4).symm e
  · have hjl : j < es.size := (List.getElem?_eq_some_iff.1 g2).1
    have hje : es[j]? = some e := by simpa using g2
    have hmod : es.modify j (fun e' => { e' with key := enc x, val := v }) = es.set j { e with key := enc x, val := v } hjl := by
      apply Array.ext (by simp)
      intro i h5 h6
      simp only [Array.getElem_modify, Array.getElem_set]
      by_cases hij : j = i
      · subst hij
        have : es[j] = e := (Array.getElem?_eq_some_iff.1 hje).2
        simp [this]
      · simp [hij]
    refine ⟨ChangeMaps.setBlock w bm (.map (es.modify j fun e' => { e' with key := enc x, val := v }) clock), ?_, ⟨_, _, new _, ?_, ?_, ?_⟩, grown _⟩
    · simp [Instr.mapUpdate, run_underlying hT, MapKept.run_getObj_map hb, K.chk, g1, hje, g3, K.stay, MapKept.run_setObj_map _ hb, ChangeMaps.setBlock]
    · rw [hmod]
      intro e' he
      rw [Array.toList_set] at he
      rcases List.mem_or_eq_of_mem_set he with he | rfl
      · exact h1 e' he
      · exact ⟨x, rfl⟩
    · rw [hmod, Array.toList_set]
      rw [List.pairwise_iff_getElem]
      intro p q hp hq hpq
      have hp' : p < es.toList.length := by simpa using hp
      have hq' : q < es.toList.length := by simpa using hq
      have h2' := List.pairwise_iff_getElem.1 h2 p q hp' hq' hpq
      have hkey : ∀ r (hr : r < es.toList.length), ((es.toList.set j { e with key := enc x, val := v })[r]'(by simpa using hr)).key = (es.toList[r]).key := by
        intro r hr
        rw [List.getElem_set]
        split
        · rename_i hjr
          subst hjr
          have : es.toList[j] = e := (List.getElem?_eq_some_iff.1 g2).2
          rw [this, g3]
        · rfl
      rw [hkey p hp', hkey q hq']
      exact h2'
    · intro y u
      rw [hmod, Array.toList_set]
      have hset : ∀ e', e' ∈ es.toList.set j { e with key := enc x, val := v } ↔ e' = { e with key := enc x, val := v } ∨ (e' ∈ es.toList ∧ e'.key ≠ enc x) := by
        intro e'
        constructor
        · intro he
          obtain ⟨i, hi⟩ := List.getElem?_of_mem he
          rw [List.getElem?_set] at hi
          split at hi
          · split at hi
            · exact .inl (Option.some.inj hi).symm
            · cases hi
          · rename_i hji
            refine .inr ⟨List.mem_of_getElem? hi, fun hk' => hji ?_⟩
            exact pair_key h2 g2 hi (by rw [g3, hk'])
        · rintro (rfl | ⟨he, hne⟩)
          · exact List.mem_set (by simpa using hjl) _
          · obtain ⟨i, hi⟩ := List.getElem?_of_mem he
            have hij : j ≠ i := by
              intro h; subst h
              rw [g2] at hi; cases hi
              exact hne g3
            exact List.mem_of_getElem? (i := i) (by rw [List.getElem?_set_ne hij]; exact hi)
      show (if y = x then some v else f y) = some u ↔ _
      by_cases hyx : y = x
      · subst hyx
        rw [if_pos rfl]
        constructor
        · intro hu; cases hu; exact ⟨_, (hset _).2 (.inl rfl), rfl, rfl⟩
        · rintro ⟨e', he, h4, h5⟩
          rcases (hset e').1 he with rfl | ⟨_, hne⟩
          · subst h5; rfl
          · exact absurd h4 hne
      · rw [if_neg hyx, h3]
        constructor
        · rintro ⟨e', he, h4, h5⟩
          exact ⟨e', (hset e').2 (.inr ⟨he, by rw [h4]; exact fun h => hyx (K.inj _ _ h)⟩), h4, h5⟩
        · rintro ⟨e', he, h4, h5⟩
          rcases (hset e').1 he with rfl | ⟨hm, _⟩
          · exact absurd (K.inj _ _ h4).symm hyx
          · exact ⟨e', hm, h4, h5⟩

variable {ops : Array Oper} {rest : List Oper} {o : Oper} {a : Act} {Q : Exit → Act → World → Prop}

theorem PMap.wpLook (h : PMap w enc bm f) (K : PKey P KT enc ok) (hok : ∀ y v, f y = some v → ok w y) (hT : P.underlying T = some (.map KT E)) {z : Value} (hz : (zeroValue E).run P w = .ok z w)
    (hg : o.guard = none) (m x : Operand) (hop : o.op = Op.lookup T m x false) (hm : a.eval m = .map (some bm)) (k : κ) (hx : ok w k) (hk : a.eval x = enc k)
    (hK : wpList P ops Q rest (a.put o.dst ((f k).getD z)) w) : wpList P ops Q (o :: rest) a w := by
  refine wpList_plain hg fun K' hK' => ?_
  have hrun := h.look K hok hT hz hx
  unfold Oper.wp
  simp [execOp, hop, hm, hk, hrun, Result.andThen]
  exact hK' _ _ hK

theorem PMap.wpUpdate [DecidableEq κ] (h : PMap w enc bm f) (K : PKey P KT enc ok) (hok : ∀ y v, f y = some v → ok w y) (hT : P.underlying T = some (.map KT E))
    (hg : o.guard = none) (m x v : Operand) (hop : o.op = Op.mapUpdate T m x v) (hm : a.eval m = .map (some bm)) (k : κ) (hx : ok w k) (hk : a.eval x = enc k) (u : Value) (hv : a.eval v = u)
    (hK : ∀ w', PMap w' enc bm (fun y => if y = k then some u else f y) → w.grownBy w' (some bm) → wpList P ops Q rest (a.put o.dst undef) w') : wpList P ops Q (o :: rest) a w := by
  refine wpList_plain hg fun K' hK' => ?_
  obtain ⟨w', hrun, h1, h2⟩ := h.update K hok hT hx u
  unfold Oper.wp
  simp [execOp, hop, hm, hk, hv, hrun, Result.andThen]
  exact hK' _ _ (hK w' h1 h2)
end

/-- the address of a cell of a plain block -/
def OkA (w : World) (p : Addr) : Prop := ∃ cs ty, w.heap[p.block]? = some (.cells cs ty (0, 0))
theorem OkA.fr {w w' : World} {p : Addr} {S : Nat → Prop} (h : OkA w p) (hf : Fr S w w') (hn : ¬ S p.block) : OkA w' p := by
  obtain ⟨cs, ty, hb⟩ := h
  exact ⟨cs, ty, (hf.block _ (Array.getElem?_eq_some_iff.1 hb).1 hn).trans hb⟩

theorem chk_ptr {P : Program} {KT te : TypeId} (hp : P.underlying KT = some (.pointer te)) (w : World) (em : Bool) (p : Option Addr) (n : Nat) : (Instr.checkKey em (n + 1) KT (.pointer p)).run P w = .ok () w := by
  simp [Instr.checkKey, run_underlying hp]
theorem eqIn_ptr {P : Program} {KT te : TypeId} {j : TypeInfo} (hp : P.underlying KT = some (.pointer te)) (hte : P.info? te = some j) (hsz : j.size ≠ 0) (w : World) (x y : Addr) (hx : OkA w x) (hy : OkA w y) (n : Nat) :
    (Op.equalIn (n + 1) KT (.pointer (some x)) (.pointer (some y))).run P w = .ok (decide (x = y)) w := by
  obtain ⟨c1, t1, h1⟩ := hx
  obtain ⟨c2, t2, h2⟩ := hy
  by_cases e : x = y
  · subst e
    simp [Op.equalIn, run_underlying hp, sizeOf, typeInfo, hte, hsz, run_sameAddr_same]
  · simp [Op.equalIn, run_underlying hp, sizeOf, typeInfo, hte, hsz, run_sameAddr_other w e h1 h2, e]

theorem pkey_addr {P : Program} {KT te : TypeId} {j : TypeInfo} (hp : P.underlying KT = some (.pointer te)) (hte : P.info? te = some j) (hsz : j.size ≠ 0) : PKey P KT (fun p : Addr => Value.pointer (some p)) OkA where
  inj x y h := by simpa using h
  und := ⟨_, hp, fun _ _ => rfl⟩
  chk w em x := chk_ptr hp w em (some x) 9999
  eq w x y hx hy := ⟨decide (x = y), eqIn_ptr hp hte hsz w x y hx hy 9999, by simp⟩
  stay w x := by simp [Instr.keyThatStays, Instr.sameBits]

end Go.Proofs.YtpabngicbfcdkaaDoor

/- GENERIC LAWS, over any program: a family of rows of the call's own (each of one-cell elements), no two in one block, none in the blocks N; append, store, make, copy at the operation. -/
namespace Go.Proofs.YtpabngicbfcdkaaDoor
open Go.RowKit
set_option linter.unusedVariables false
set_option linter.unusedSimpArgs false

/-- a row: its elements' type, the slice value, the elements -/
abbrev Rw := TypeId × Value × List Value

abbrev AtR (l : List (Option Rw)) (i : Nat) (e : TypeId) (v : Value) (xs : List Value) : Prop := l[i]? = some (some (e, v, xs))

structure RF (B : Nat) (N : Nat → Prop) (w : World) (l : List (Option Rw)) : Prop where
  own : ∀ i e v xs, AtR l i e v xs → Row w B e 1 v xs.length xs
  ne : ∀ i j e v xs e' v' xs' g, i ≠ j → AtR l i e v xs → l[j]? = some (some (e', v', xs')) → v.ownBlock = some g → v'.ownBlock ≠ some g
  av : ∀ i e v xs g, AtR l i e v xs → v.ownBlock = some g → ¬ N g
  nl : ∀ b, N b → b < w.heap.size
  bw : B ≤ w.heap.size

theorem RF.lt {B N w l} (h : RF B N w l) {i e v xs g} (hi : AtR l i e v xs) (hg : v.ownBlock = some g) : g < w.heap.size ∧ B ≤ g := Row.block_lt (h.own i e v xs hi) hg

theorem RF.fr {B N w w' l} {S : Nat → Prop} (h : RF B N w l) (hf : Fr S w w') (hS : ∀ i e v xs g, AtR l i e v xs → v.ownBlock = some g → ¬ S g) : RF B N w' l :=
  ⟨fun i e v xs hi => Row.fr (h.own i e v xs hi) hf (fun g hg => hS i e v xs g hi hg), h.ne, h.av, fun b hb => Nat.lt_of_lt_of_le (h.nl b hb) hf.size, Nat.le_trans h.bw hf.size⟩
theorem RF.below {B N w w' l} (h : RF B N w l) (hb : Below w.heap.size w w') : RF B N w' l := h.fr (S := fun _ => False) (.of_below hb) (fun _ _ _ _ _ _ _ h => h)
/-- what is written lies in N -/
theorem RF.cells {B N w w' l} (h : RF B N w l) (hf : Fr N w w') : RF B N w' l := h.fr hf h.av

/-- a family of one row -/
theorem RF.one {B : Nat} {N : Nat → Prop} {w : World} {e v xs} (hr : Row w B e 1 v xs.length xs) (hav : ∀ g, v.ownBlock = some g → ¬ N g) (nl : ∀ b, N b → b < w.heap.size) (bw : B ≤ w.heap.size) : RF B N w [some (e, v, xs)] := by
  have get : ∀ {i e2 v2 xs2}, AtR [some (e, v, xs)] i e2 v2 xs2 → i = 0 ∧ e2 = e ∧ v2 = v ∧ xs2 = xs := by
    intro i e2 v2 xs2 hi
    rcases i with _ | i
    · have h := Option.some.inj (Option.some.inj hi)
      simp only [Prod.mk.injEq] at h
      exact ⟨rfl, h.1.symm, h.2.1.symm, h.2.2.symm⟩
    · cases hi
  refine ⟨fun i e2 v2 xs2 hi => ?_, fun i j e2 v2 xs2 e3 v3 xs3 g hne hi hj => ?_, fun i e2 v2 xs2 g hi hg => ?_, nl, bw⟩
  · obtain ⟨_, rfl, rfl, rfl⟩ := get hi; exact hr
  · have h1 := (get hi).1; have h2 := (get hj).1; omega
  · obtain ⟨_, rfl, rfl, rfl⟩ := get hi; exact hav g hg

/-- one block more of other things -/
theorem RF.addN {B N w l} (h : RF B N w l) (o : Obj) : RF B (fun b => N b ∨ b = w.heap.size) (w.alloc o) l := by
  have h' := h.below (below_alloc w o)
  refine ⟨h'.own, h.ne, fun i e v xs g hi hg hc => ?_, fun b hb => ?_, h'.bw⟩
  · rcases hc with hc | hc
    · exact h.av i e v xs g hi hg hc
    · have := (h.lt hi hg).1; omega
  · rcases hb with hb | hb
    · exact h'.nl b hb
    · rw [hb]; simp

theorem set_get {α : Type} {l : List α} {i j : Nat} {x y : α} (h : (l.set i x)[j]? = some y) : (j = i ∧ i < l.length ∧ y = x) ∨ (j ≠ i ∧ l[j]? = some y) := by
  rw [List.getElem?_set] at h
  by_cases e : i = j
  · rw [if_pos e] at h
    split at h
    · exact .inl ⟨e.symm, by omega, (Option.some.inj h).symm⟩
    · cases h
  · rw [if_neg e] at h
    exact .inr ⟨fun h => e h.symm, h⟩

/-- one row is another now: what else has been written lies in its old block or is new -/
theorem RF.turn {B N w w' l} (h : RF B N w l) {i e v xs} (hi : AtR l i e v xs) {v' xs'} (hr : Row w' B e 1 v' xs'.length xs') (hg : w.grownBy w' v.ownBlock) (hat : v'.ownBlock = v.ownBlock ∨ v'.ownBlock = some w.heap.size ∨ v'.ownBlock = none) : RF B N w' (l.set i (some (e, v', xs'))) := by
  have hf : Fr (fun g => v.ownBlock = some g) w w' := Fr.of_grown hg (fun k hk => hk)
  have hold : ∀ {j e2 v2 xs2}, j ≠ i → AtR l j e2 v2 xs2 → Row w' B e2 1 v2 xs2.length xs2 := fun {j e2 v2 xs2} hne hj =>
    Row.fr (h.own j e2 v2 xs2 hj) hf (fun g hg2 hg3 => h.ne j i _ _ _ _ _ _ g hne hj hi hg2 hg3)
  have hnb : ∀ {j e2 v2 xs2 g}, j ≠ i → AtR l j e2 v2 xs2 → v2.ownBlock = some g → v'.ownBlock ≠ some g := by
    intro j e2 v2 xs2 g hne hj hg2 hc
    rcases hat with e | e | e
    · rw [e] at hc; exact h.ne j i _ _ _ _ _ _ g hne hj hi hg2 hc
    · rw [e] at hc; cases hc
      exact absurd (h.lt hj hg2).1 (Nat.lt_irrefl _)
    · rw [e] at hc; cases hc
  refine ⟨fun j e2 v2 xs2 hj => ?_, fun j m e2 v2 xs2 e3 v3 xs3 g hne hj hm hg2 => ?_, fun j e2 v2 xs2 g hj hg2 => ?_, fun b hb => Nat.lt_of_lt_of_le (h.nl b hb) hf.size, Nat.le_trans h.bw hf.size⟩
  · rcases set_get hj with ⟨_, _, e4⟩ | ⟨h1, h2⟩
    · cases e4; exact hr
    · exact hold h1 h2
  · rcases set_get hj with ⟨a1, _, e4⟩ | ⟨h1, h2⟩ <;> rcases set_get hm with ⟨a2, _, e5⟩ | ⟨h3, h4⟩
    · omega
    · cases e4
      intro hc
      exact hnb h3 h4 hc hg2
    · cases e5; exact hnb h1 h2 hg2
    · exact h.ne j m _ _ _ _ _ _ g hne h2 h4 hg2
  · rcases set_get hj with ⟨_, _, e4⟩ | ⟨h1, h2⟩
    · cases e4
      rcases hat with e | e | e
      · rw [e] at hg2; exact h.av i _ _ _ g hi hg2
      · rw [e] at hg2; cases hg2
        intro hc; exact Nat.lt_irrefl _ (h.nl _ hc)
      · rw [e] at hg2; cases hg2
    · exact h.av j _ _ _ g h2 hg2

/-- a new row -/
theorem RF.new {B N w w' l} (h : RF B N w l) {e v xs} (hr : Row w' B e 1 v xs.length xs) (hb : Below w.heap.size w w') (hat : v.ownBlock = some w.heap.size ∨ v.ownBlock = none) : RF B N w' (l ++ [some (e, v, xs)]) := by
  have h' := h.below hb
  have get : ∀ {j x}, (l ++ [some (e, v, xs)])[j]? = some x → (l[j]? = some x) ∨ (j = l.length ∧ x = some (e, v, xs)) := by
    intro j x hj
    rw [List.getElem?_append] at hj
    split at hj
    · exact .inl hj
    · rename_i hlt
      have : j - l.length = 0 := by
        rcases Nat.eq_zero_or_pos (j - l.length) with z | z
        · exact z
        · rw [List.getElem?_eq_none (by simp; omega)] at hj; cases hj
      rw [this] at hj
      exact .inr ⟨by omega, by simpa using hj.symm⟩
  have hnb : ∀ {j e2 v2 xs2 g}, AtR l j e2 v2 xs2 → v2.ownBlock = some g → v.ownBlock ≠ some g := by
    intro j e2 v2 xs2 g hj hg2 hc
    rcases hat with e | e
    · rw [e] at hc; cases hc; exact Nat.lt_irrefl _ (h.lt hj hg2).1
    · rw [e] at hc; cases hc
  refine ⟨fun j e2 v2 xs2 hj => ?_, fun j m e2 v2 xs2 e3 v3 xs3 g hne hj hm hg2 => ?_, fun j e2 v2 xs2 g hj hg2 => ?_, h'.nl, h'.bw⟩
  · rcases get hj with h1 | ⟨_, e4⟩
    · exact h'.own j _ _ _ h1
    · cases e4; exact hr
  · rcases get hj with h1 | ⟨a1, e4⟩ <;> rcases get hm with h2 | ⟨a2, e5⟩
    · exact h.ne j m _ _ _ _ _ _ g hne h1 h2 hg2
    · cases e5; exact hnb h1 hg2
    · cases e4; intro hc; exact hnb h2 hc hg2
    · omega
  · rcases get hj with h1 | ⟨_, e4⟩
    · exact h.av j _ _ _ g h1 hg2
    · cases e4
      rcases hat with e | e
      · rw [e] at hg2; cases hg2; intro hc; exact Nat.lt_irrefl _ (h.nl _ hc)
      · rw [e] at hg2; cases hg2

theorem RF.grown {B N w w' l} (h : RF B N w l) {i e v xs} (hi : AtR l i e v xs) (hg : w.grownBy w' v.ownBlock) : Below B w w' :=
  (Below.refl _ _).grown hg h.bw (fun x hx => (h.lt hi hx).2)
/-- cells of blocks of N stay while a row is written -/
theorem RF.cellN {B N w w' l} (h : RF B N w l) {i e v xs} (hi : AtR l i e v xs) (hg : w.grownBy w' v.ownBlock) {b j : Nat} {u : Value} (hb : N b) (hc : w.cell? ⟨b, j, none⟩ = some u) : w'.cell? ⟨b, j, none⟩ = some u :=
  hg.cell hc (fun e => h.av i _ _ _ b hi e.symm hb)
theorem RF.frN {B N w w' l} (h : RF B N w l) {i e v xs} (hi : AtR l i e v xs) (hg : w.grownBy w' v.ownBlock) : Fr (fun b => ¬ N b) w w' :=
  Fr.of_grown hg (fun k hk => h.av i _ _ _ k hi hk)

/-- a cell of a row -/
theorem RF.cell {B N w l} (h : RF B N w l) {i e g n c xs} (hi : AtR l i e (.slice (some ⟨g, 0, none⟩) n c) xs) {j : Nat} {u : Value} (hu : xs[j]? = some u) : w.cell? ⟨g, j, none⟩ = some u := by
  have hr := h.own i _ _ _ hi
  have hj : j < xs.length := (List.getElem?_eq_some_iff.1 hu).1
  have hn : n = xs.length := by
    rcases hr.2 with ⟨hv, _⟩ | ⟨g', cap, cur, hv, _⟩
    · cases hv
    · simp only [Value.slice.injEq] at hv; exact hv.2.1
  subst hn
  rw [World.ownsRow.cellAt hr j (by simpa using hj), hu]
theorem RF.len {B N w l} (h : RF B N w l) {i e a n c xs} (hi : AtR l i e (.slice a n c) xs) : n = xs.length := by
  rcases (h.own i _ _ _ hi).2 with ⟨hv, h0⟩ | ⟨g', cap, cur, hv, _⟩
  · cases hv; exact h0.symm
  · simp only [Value.slice.injEq] at hv; exact hv.2.1
theorem RF.form {B N w l} (h : RF B N w l) {i e v xs} (hi : AtR l i e v xs) : ∃ a c, v = .slice a xs.length c := Row.form (h.own i _ _ _ hi)
theorem RF.addr {B N w l} (h : RF B N w l) {i e a n c xs} (hi : AtR l i e (.slice a n c) xs) (hn : 0 < xs.length) : ∃ g, a = some ⟨g, 0, none⟩ := by
  rcases (h.own i _ _ _ hi).2 with ⟨hv, h0⟩ | ⟨g', cap, cur, hv, _⟩
  · omega
  · cases hv; exact ⟨_, rfl⟩

section
variable {P : Program} {w : World} {ops : Array Oper} {rest : List Oper} {o : Oper} {a : Act} {Q : Exit → Act → World → Prop}

/-- append of one new cell's block (the world w1 ahead of it, the new block laid) -/
theorem RF.append {B N w1 l} (h : RF B N w1 l) {i e v xs} (hi : AtR l i e v xs) (n : Nat) (hn : n = xs.length) (hw : Below w1.heap.size w1 w) (s x : Operand) {t : TypeId} {z : Value} {bytes : Nat} (E : EltG P t e z 1 bytes)
    (hgd : o.guard = none) (ho : o.op = .call { callee := .builtin .append, args := #[s, x], argTypes := #[t, t] }) (hs : a.eval s = v) (ad : Option Addr) (m c : Nat) (news : List Value) (hx : a.eval x = .slice ad m c) (hr : RdG w 1 ad m news) (h1 : ∀ u ∈ news, u.oneCell' = true)
    (hlen : (n + m) * bytes ≤ 140737488355328) (hpos : 0 < bytes)
    (hK : ∀ a' c' w', RF B N w' (l.set i (some (e, .slice a' (n + m) c', xs ++ news))) → w.grownBy w' v.ownBlock → Below B w1 w' → Fr (fun b => ¬ N b) w1 w' → wpList P ops Q rest (a.put o.dst (.slice a' (n + m) c')) w') : wpList P ops Q (o :: rest) a w := by
  subst hn
  have hm : news.length = m := by have := hr.len; omega
  have h2 := h.below hw
  refine app_row_at s x E hgd ho B v xs.length xs hs (h2.own i _ _ _ hi) ad m c news hx hr h1 hlen hpos h2.bw ?_
  intro a' c' w' hr' hg hat
  refine hK a' c' w' ?_ hg ((hw.mono h.bw).trans (h2.grown hi hg)) ((Fr.of_below hw).trans (h2.frN hi hg))
  refine h2.turn hi (by rw [List.length_append, hm]; exact hr') hg ?_
  rcases hat with e | e
  · exact .inl e
  · exact .inr (.inl e)

/-- a store of one cell into a row -/
theorem RF.store {B N l} (h : RF B N w l) {i e g n c xs} (hi : AtR l i e (.slice (some ⟨g, 0, none⟩) n c) xs) (hgd : o.guard = none) (ty : TypeId) (x y : Operand) (ho : o.op = .store ty x y)
    (j : Nat) (hx : a.eval x = .pointer (some ⟨g, j, none⟩)) (u : Value) (hy : a.eval y = u) (hu : u.cells.toList = [u]) (h1 : u.oneCell' = true) (hsz : (P.info? ty).map (·.size) = some 1) (hj : j < xs.length)
    (hK : ∀ w', RF B N w' (l.set i (some (e, .slice (some ⟨g, 0, none⟩) n c, xs.set j u))) → w.grownBy w' (some g) → Below B w w' → Fr (fun b => ¬ N b) w w' → wpList P ops Q rest (a.put o.dst undef) w') : wpList P ops Q (o :: rest) a w := by
  have hn := h.len hi
  subst hn
  refine store_row hgd ty x y ho g j hx u hy [u] hu hsz (by simpa using h1) B e 1 xs.length c xs (h.own i _ _ _ hi) (by simp; omega) ?_
  intro w' hr hg
  refine hK w' (h.turn hi (v' := .slice (some ⟨g, 0, none⟩) xs.length c) (xs' := xs.set j u) ?_ hg (.inl rfl)) hg (h.grown hi hg) (h.frN hi hg)
  rw [List.length_set, List.set_eq_take_append_cons_drop, if_pos hj]
  simpa using hr

/-- make([]T, n) -/
theorem RF.make {B N l} (h : RF B N w l) {t e : TypeId} {z : Value} {bytes : Nat} (E : EltG P t e z 1 bytes) (hz : z.cells = #[z]) (hgd : o.guard = none) (s x : Operand) (ho : o.op = Op.makeSlice t s x) (kl kc : IntKind) (L C : Int) (n : Nat) (hs : a.eval s = .int kl L) (hx : a.eval x = .int kc C) (hL : L = (n : Int)) (hC : C = (n : Int))
    (hb : n * bytes ≤ 281474976710656) (hn : n ≤ 9223372036854775807)
    (hK : ∀ w', RF B N w' (l ++ [some (e, .slice (some ⟨w.heap.size, 0, none⟩) n n, List.replicate n z)]) → Below w.heap.size w w' → w.heap.size < w'.heap.size → wpList P ops Q rest (a.put o.dst (.slice (some ⟨w.heap.size, 0, none⟩) n n)) w') : wpList P ops Q (o :: rest) a w := by
  refine make_row E hgd s x ho B kl kc L C n hs hx hL hC hb hn h.bw ?_
  intro w' hr hg
  rw [Nat.mul_one, hz, toList_madeCells_one] at hr
  have hbl := grown_below' hg (Nat.le_refl w.heap.size)
  refine hK w' (h.new (by rw [List.length_replicate]; exact hr) hbl (.inl rfl)) hbl (Row.block_lt hr (g := w.heap.size) rfl).1

/-- make([]T, m, n) -/
theorem RF.makeLC {B N l} (h : RF B N w l) {t e : TypeId} {z : Value} {bytes : Nat} (E : EltG P t e z 1 bytes) (hz : z.cells = #[z]) (hgd : o.guard = none) (s x : Operand) (ho : o.op = Op.makeSlice t s x) (kl kc : IntKind) (L C : Int) (m n : Nat) (hs : a.eval s = .int kl L) (hx : a.eval x = .int kc C) (hL : L = (m : Int)) (hC : C = (n : Int)) (hmn : m ≤ n)
    (hb : n * bytes ≤ 281474976710656) (hn : n ≤ 9223372036854775807)
    (hK : ∀ w', RF B N w' (l ++ [some (e, .slice (some ⟨w.heap.size, 0, none⟩) m n, List.replicate m z)]) → Below w.heap.size w w' → w.heap.size < w'.heap.size → wpList P ops Q rest (a.put o.dst (.slice (some ⟨w.heap.size, 0, none⟩) m n)) w') : wpList P ops Q (o :: rest) a w := by
  obtain ⟨i, hi, hz2, hsz, hby⟩ := E.hi
  refine wpList_plain hgd fun K hK' => ?_
  have hb' : (i.bytes : Int) * (n : Int) ≤ 281474976710656 := by
    have h : ((i.bytes * n : Nat) : Int) ≤ 281474976710656 := by rw [hby, Nat.mul_comm]; omega
    rwa [Int.natCast_mul] at h
  have hr := run_make (P := P) w t e i z E.ht hi hz2 kl kc m n (by omega) (by omega) hb' (by omega)
  simp only [Int.toNat_natCast] at hr
  subst hL
  subst hC
  unfold Oper.wp
  simp only [execOp, ho, hs, hx, hr, Sem.run_bind, Sem.run_pure, Result.andThen_ok]
  refine hK' _ _ (hK _ (h.new (w' := w.alloc (.cells (madeCells z.cells (n * i.size)) e)) ?_ (below_alloc _ _) (.inl rfl)) (below_alloc _ _) (by simp))
  rw [List.length_replicate]
  refine ⟨by simp, .inr ⟨w.heap.size, n, _, rfl, h.bw, heap_alloc_new w _, hmn, by unfold maxLen; omega, ?_, ?_⟩⟩
  · rw [hsz, size_madeCells]
  · rw [hsz, Nat.mul_one, hz, toList_madeCells_one, List.take_replicate, Nat.mul_one, Nat.min_eq_left hmn]

/-- make([]T, 0, n) -/
theorem RF.make0 {B N l} (h : RF B N w l) {t e : TypeId} {z : Value} {bytes : Nat} (E : EltG P t e z 1 bytes) (hgd : o.guard = none) (s x : Operand) (ho : o.op = Op.makeSlice t s x) (kl kc : IntKind) (C : Int) (n : Nat) (hs : a.eval s = .int kl 0) (hx : a.eval x = .int kc C) (hC : C = (n : Int))
    (hb : n * bytes ≤ 281474976710656) (hn : n ≤ 9223372036854775807)
    (hK : ∀ w', RF B N w' (l ++ [some (e, .slice (some ⟨w.heap.size, 0, none⟩) 0 n, [])]) → Below w.heap.size w w' → w.heap.size < w'.heap.size → wpList P ops Q rest (a.put o.dst (.slice (some ⟨w.heap.size, 0, none⟩) 0 n)) w') : wpList P ops Q (o :: rest) a w := by
  obtain ⟨i, hi, hz, hsz, hby⟩ := E.hi
  refine wpList_make_own w hgd s x t ho B e i z 1 E.ht hi hz hsz kl kc C n hs hx hC (by rw [hby, Nat.mul_comm]; exact hb) (by unfold maxLen; omega) h.bw ?_
  intro w' hr hg
  have hbl := grown_below' hg (Nat.le_refl w.heap.size)
  exact hK w' (h.new hr hbl (.inl rfl)) hbl (Row.block_lt hr (g := w.heap.size) rfl).1
end

/-- copy into a row of the call's own, from cells that can be read, as long as the row: at a step of a region that draws -/
theorem RF.copy {P : Program} {ops : Array Oper} {o : Oper} {a : Act} {w : World} {K : Act → World → Prop} {Q : Exit → Act → World → Prop} {X : Prop} {B N l} (h : RF B N w l) {i e g n c xs} (hi : AtR l i e (.slice (some ⟨g, 0, none⟩) n c) xs)
    (hgd : o.guard = none) (d s : Operand) (dT sT : TypeId) (ho : o.op = .call { callee := .builtin .copy, args := #[d, s], argTypes := #[dT, sT] }) {z : Value} {bytes : Nat} (E : EltG P dT e z 1 bytes)
    (hd : a.eval d = .slice (some ⟨g, 0, none⟩) n c) (ad : Addr) (m : Nat) (sc : Nat) (news : List Value) (hs : a.eval s = .slice (some ad) m sc) (hr : RdG w 1 (some ad) m news) (h1 : ∀ u ∈ news, u.oneCell' = true) (hm : m = n)
    (hK : ∀ w', RF B N w' (l.set i (some (e, .slice (some ⟨g, 0, none⟩) n c, news))) → w.grownBy w' (some g) → Below B w w' → Fr (fun b => ¬ N b) w w' → K (a.put o.dst (goInt m)) w') :
    if Region.wanted o (yielded ops a.tmps) = true then Oper.wp P o a w K Q else X := by
  have hw : Region.wanted o (yielded ops a.tmps) = true := by simp [Region.wanted, hgd]
  rw [if_pos hw]
  have hn := h.len hi
  have hnl : news.length = m := by have := hr.len; omega
  subst hm
  obtain ⟨inf, hinf, hz, hsz, hby⟩ := E.hi
  have hrow := h.own i _ _ _ hi
  rcases hrow.2 with ⟨hv, _⟩ | ⟨g', cap, cur, hv, hB, hg, hnc, hcm, hcs, htake⟩
  · cases hv
  · simp only [Value.slice.injEq, Option.some.injEq, Addr.mk.injEq] at hv
    obtain ⟨⟨rfl, _⟩, _, rfl⟩ := hv
    have hrun := run_copy_row (P := P) w dT sT o.type e g 0 m c ad m sc cur e news E.ht (by rw [hinf]; simp [hsz]) hg (by rw [hnl]; exact (Nat.min_self m).symm) hr.news (by rw [hcs]; omega) h1
    unfold Oper.wp
    simp only [execOp, ho, resolve, invoke, builtin, Sem.run_bind, Sem.run_pure, Result.andThen_ok, List.map_toArray, List.map_cons, List.map_nil, hd, hs, hrun]
    have hgr : w.grownBy (w.setRow g (cur.toList.take 0 ++ news ++ cur.toList.drop (0 + news.length)).toArray) (some g) := ⟨rfl, rfl, rfl, by simp, fun k _ hk => setRow_other w g k _ (fun e => hk (by simp [e]))⟩
    have hrow' : Row (w.setRow g (cur.toList.take 0 ++ news ++ cur.toList.drop (0 + news.length)).toArray) B e 1 (.slice (some ⟨g, 0, none⟩) m c) news.length news := by
      refine ⟨by simp, .inr ⟨g, c, _, by rw [hnl], hB, setRow_heap w g cur _ e _ hg, by omega, hcm, ?_, ?_⟩⟩
      · simp; omega
      · simp
    have hfin := hK _ (h.turn hi hrow' hgr (.inl rfl)) hgr (h.grown hi hgr) (h.frN hi hgr)
    have e9 : (goInt (m : Int)) = goInt (news.length : Int) := by rw [hnl]
    rw [e9] at hfin
    exact hfin

/-- four cells of a struct read as one value -/
theorem results_cell_tmp2 {fn : Func} {p u u2 : Tmp} {ty : TypeId} (h : fn.results = #[.cell p ty, .tmp u, .tmp u2]) (tmps : Array Value) (P : Program) (w : World) :
    (results fn tmps).run P w =
      ((asAddr (tmps.getD p undef)).run P w).andThen fun a w₁ => ((loadVar ty a).run P w₁).andThen fun v w₂ => .ok (.tuple #[v, tmps.getD u undef, tmps.getD u2 undef]) w₂ := by
  simp only [results, h]
  simp [Sem.run_bind, Result.andThen]

end Go.Proofs.YtpabngicbfcdkaaDoor

/- trees of expressions: in words, and us they lie in memory. -/
namespace Go.Proofs.YtpabngicbfcdkaaDoor
open Go.RowKit
set_option linter.unusedVariables false
set_option linter.unusedSimpArgs false

/-- an expression -/
inductive Ex where
  | mk (kind : Int) (text : ByteArray) (num : Int) (args : List Ex)

def Ex.kind : Ex → Int | .mk k _ _ _ => k
def Ex.text : Ex → ByteArray | .mk _ s _ _ => s
def Ex.num : Ex → Int | .mk _ _ n _ => n
def Ex.args : Ex → List Ex | .mk _ _ _ us => us

mutual
def Ex.size : Ex → Nat
  | .mk _ _ _ us => 1 + Ex.sizes us
def Ex.sizes : List Ex → Nat
  | [] => 0
  | t :: r => t.size + Ex.sizes r
end
mutual
def Ex.depth : Ex → Nat
  | .mk _ _ _ us => 1 + Ex.depths us
def Ex.depths : List Ex → Nat
  | [] => 0
  | t :: r => max t.depth (Ex.depths r)
end
mutual
/-- every node has a property -/
def Ex.all (good : Ex → Bool) : Ex → Prop
  | .mk k s n us => good (.mk k s n us) = true ∧ Ex.alls good us
def Ex.alls (good : Ex → Bool) : List Ex → Prop
  | [] => True
  | t :: r => t.all good ∧ Ex.alls good r
end

theorem Ex.size_pos (t : Ex) : 0 < t.size := by cases t; simp only [Ex.size]; omega
theorem Ex.size_eq (t : Ex) : t.size = 1 + Ex.sizes t.args := by cases t; simp only [Ex.size, Ex.args]
theorem Ex.depth_eq (t : Ex) : t.depth = 1 + Ex.depths t.args := by cases t; simp only [Ex.depth, Ex.args]
theorem Ex.sizes_append (a b : List Ex) : Ex.sizes (a ++ b) = Ex.sizes a + Ex.sizes b := by
  induction a with
  | nil => simp [Ex.sizes]
  | cons t r ih => simp only [List.cons_append, Ex.sizes, ih]; omega
theorem Ex.depths_append (a b : List Ex) : Ex.depths (a ++ b) = max (Ex.depths a) (Ex.depths b) := by
  induction a with
  | nil => simp [Ex.depths]
  | cons t r ih => simp only [List.cons_append, Ex.depths, ih]; omega
theorem Ex.size_kid {us : List Ex} {i : Nat} {t : Ex} (h : us[i]? = some t) : t.size ≤ Ex.sizes us := by
  induction us generalizing i with
  | nil => cases h
  | cons x r ih =>
    rcases i with _ | i
    · simp at h; subst h; simp only [Ex.sizes]; omega
    · have := ih (i := i) (by simpa using h)
      simp only [Ex.sizes]; omega
theorem Ex.sizes_len (us : List Ex) : us.length ≤ Ex.sizes us := by
  induction us with
  | nil => simp
  | cons x r ih => have := x.size_pos; simp only [Ex.sizes, List.length_cons]; omega
theorem Ex.depths_len {us : List Ex} {i : Nat} {t : Ex} (h : us[i]? = some t) : t.depth ≤ Ex.depths us := by
  induction us generalizing i with
  | nil => cases h
  | cons x r ih =>
    rcases i with _ | i
    · simp at h; subst h; simp only [Ex.depths]; omega
    · have := ih (i := i) (by simpa using h)
      simp only [Ex.depths]; omega
mutual
theorem Ex.depth_le : ∀ t : Ex, t.depth ≤ t.size
  | .mk _ _ _ us => by have := Ex.depths_le us; simp only [Ex.depth, Ex.size]; omega
theorem Ex.depths_le : ∀ us : List Ex, Ex.depths us ≤ Ex.sizes us
  | [] => by simp [Ex.depths, Ex.sizes]
  | t :: r => by have := Ex.depth_le t; have := Ex.depths_le r; simp only [Ex.depths, Ex.sizes]; omega
end
theorem Ex.all_eq (good : Ex → Bool) (t : Ex) : t.all good ↔ (good t = true ∧ ∀ (i : Nat) (u : Ex), t.args[i]? = some u → u.all good) := by
  cases t with
  | mk k s n us =>
    simp only [Ex.all, Ex.args]
    have h : Ex.alls good us ↔ ∀ (i : Nat) u, us[i]? = some u → u.all good := by
      induction us with
      | nil => simp [Ex.alls]
      | cons x r ih =>
        simp only [Ex.alls, ih]
        constructor
        · rintro ⟨h1, h2⟩ i u hu
          rcases i with _ | i
          · simp at hu; subst hu; exact h1
          · exact h2 i u (by simpa using hu)
        · intro h
          exact ⟨h 0 x rfl, fun i u hu => h (i + 1) u (by simpa using hu)⟩
    rw [h]

/-- the four cells of a node -/
def NodeAt (w : World) (b off : Nat) (k : Int) (s : ByteArray) (n : Int) (v : Value) : Prop :=
  ∃ cs ty, w.heap[b]? = some (.cells cs ty (0, 0)) ∧ cs[off]? = some (.int .i64 k) ∧ cs[off + 1]? = some (.string s) ∧ cs[off + 2]? = some (.int .i64 n) ∧ cs[off + 3]? = some v
theorem NodeAt.fr {w w' : World} {b off k s n v} {S : Nat → Prop} (h : NodeAt w b off k s n v) (hf : Fr S w w') (hn : ¬ S b) : NodeAt w' b off k s n v := by
  obtain ⟨cs, ty, hb, r⟩ := h
  exact ⟨cs, ty, (hf.block _ (Array.getElem?_eq_some_iff.1 hb).1 hn).trans hb, r⟩
theorem NodeAt.lt {w : World} {b off k s n v} (h : NodeAt w b off k s n v) : b < w.heap.size := by
  obtain ⟨cs, ty, hb, r⟩ := h
  exact (Array.getElem?_eq_some_iff.1 hb).1
theorem NodeAt.ok {w : World} {b off k s n v} (h : NodeAt w b off k s n v) : OkA w ⟨b, off, none⟩ := by
  obtain ⟨cs, ty, hb, r⟩ := h
  exact ⟨cs, ty, hb⟩
theorem NodeAt.cells {w : World} {b off k s n v} (h : NodeAt w b off k s n v) : w.cell? ⟨b, off, none⟩ = some (.int .i64 k) ∧ w.cell? ⟨b, off + 1, none⟩ = some (.string s) ∧ w.cell? ⟨b, off + 2, none⟩ = some (.int .i64 n) ∧ w.cell? ⟨b, off + 3, none⟩ = some v := by
  obtain ⟨cs, ty, hb, h0, h1, h2, h3⟩ := h
  simp only [World.cell?, hb]
  exact ⟨h0, h1, h2, h3⟩

mutual
/-- a tree at a place, all in blocks of T -/
def RdE (T : Nat → Prop) (w : World) : Ex → Nat → Nat → Prop
  | .mk k s n us, b, off => T b ∧ ∃ a c, NodeAt w b off k s n (.slice a us.length c) ∧ us.length ≤ c ∧ (us = [] ∨ ∃ b' o', a = some ⟨b', o', none⟩ ∧ RdL T w us b' o')
/-- trees that follow one another -/
def RdL (T : Nat → Prop) (w : World) : List Ex → Nat → Nat → Prop
  | [], _, _ => True
  | t :: r, b, off => RdE T w t b off ∧ RdL T w r b (off + 4)
end
/-- arguments behind an address -/
def RdA (T : Nat → Prop) (w : World) (us : List Ex) (a : Option Addr) : Prop := us = [] ∨ ∃ b' o', a = some ⟨b', o', none⟩ ∧ RdL T w us b' o'

mutual
theorem RdE.fr {T S : Nat → Prop} {w w' : World} (hf : Fr S w w') (hd : ∀ i, T i → ¬ S i) : ∀ (t : Ex) {b off : Nat}, RdE T w t b off → RdE T w' t b off
  | .mk k s n us, b, off, h => by
    obtain ⟨hT, a, c, hn, hc, ha⟩ := h
    refine ⟨hT, a, c, hn.fr hf (hd _ hT), hc, ?_⟩
    rcases ha with h0 | ⟨b', o', h1, h2⟩
    · exact .inl h0
    · exact .inr ⟨b', o', h1, RdL.fr hf hd us h2⟩
theorem RdL.fr {T S : Nat → Prop} {w w' : World} (hf : Fr S w w') (hd : ∀ i, T i → ¬ S i) : ∀ (us : List Ex) {b off : Nat}, RdL T w us b off → RdL T w' us b off
  | [], _, _, _ => trivial
  | t :: r, b, off, h => ⟨RdE.fr hf hd t h.1, RdL.fr hf hd r h.2⟩
end
theorem RdA.fr {T S : Nat → Prop} {w w' : World} {us a} (h : RdA T w us a) (hf : Fr S w w') (hd : ∀ i, T i → ¬ S i) : RdA T w' us a := by
  rcases h with h0 | ⟨b', o', h1, h2⟩
  · exact .inl h0
  · exact .inr ⟨b', o', h1, RdL.fr hf hd us h2⟩
mutual
theorem RdE.mono {T T' : Nat → Prop} {w : World} (hT : ∀ i, i < w.heap.size → T i → T' i) : ∀ (t : Ex) {b off : Nat}, RdE T w t b off → RdE T' w t b off
  | .mk k s n us, b, off, h => by
    obtain ⟨h0, a, c, hn, hc, ha⟩ := h
    refine ⟨hT _ hn.lt h0, a, c, hn, hc, ?_⟩
    rcases ha with h0 | ⟨b', o', h1, h2⟩
    · exact .inl h0
    · exact .inr ⟨b', o', h1, RdL.mono hT us h2⟩
theorem RdL.mono {T T' : Nat → Prop} {w : World} (hT : ∀ i, i < w.heap.size → T i → T' i) : ∀ (us : List Ex) {b off : Nat}, RdL T w us b off → RdL T' w us b off
  | [], _, _, _ => trivial
  | t :: r, b, off, h => ⟨RdE.mono hT t h.1, RdL.mono hT r h.2⟩
end
theorem RdA.mono {T T' : Nat → Prop} {w : World} {us a} (h : RdA T w us a) (hT : ∀ i, i < w.heap.size → T i → T' i) : RdA T' w us a := by
  rcases h with h0 | ⟨b', o', h1, h2⟩
  · exact .inl h0
  · exact .inr ⟨b', o', h1, RdL.mono hT us h2⟩
theorem RdE.below {T : Nat → Prop} {w w' : World} (hb : Below w.heap.size w w') (t : Ex) {b off : Nat} (h : RdE T w t b off) : RdE T w' t b off := RdE.fr (S := fun _ => False) (.of_below hb) (fun _ _ h => h) t h
theorem RdA.below {T : Nat → Prop} {w w' : World} {us a} (h : RdA T w us a) (hb : Below w.heap.size w w') : RdA T w' us a := h.fr (S := fun _ => False) (.of_below hb) (fun _ _ h => h)
theorem RdL.below {T : Nat → Prop} {w w' : World} (hb : Below w.heap.size w w') (us : List Ex) {b off : Nat} (h : RdL T w us b off) : RdL T w' us b off := RdL.fr (S := fun _ => False) (.of_below hb) (fun _ _ h => h) us h

/-- an expression by value -/
def exV (t : Ex) (a : Option Addr) (c : Nat) : Value := .agg #[.int .i64 t.kind, .string t.text, .int .i64 t.num, .slice a t.args.length c]

theorem RdE.node {T : Nat → Prop} {w : World} {t : Ex} {b off : Nat} (h : RdE T w t b off) : T b ∧ ∃ a c, NodeAt w b off t.kind t.text t.num (.slice a t.args.length c) ∧ t.args.length ≤ c ∧ RdA T w t.args a := by
  cases t; exact h
theorem RdE.mk' {T : Nat → Prop} {w : World} {t : Ex} {b off : Nat} {a : Option Addr} {c : Nat} (hT : T b) (hn : NodeAt w b off t.kind t.text t.num (.slice a t.args.length c)) (hc : t.args.length ≤ c) (ha : RdA T w t.args a) : RdE T w t b off := by
  cases t; exact ⟨hT, a, c, hn, hc, ha⟩
theorem RdL.get {T : Nat → Prop} {w : World} : ∀ {us : List Ex} {b off i : Nat} {t : Ex}, RdL T w us b off → us[i]? = some t → RdE T w t b (off + 4 * i)
  | x :: r, b, off, 0, t, h, ht => by simp at ht; subst ht; simpa using h.1
  | x :: r, b, off, i + 1, t, h, ht => by
    have := RdL.get (i := i) h.2 (by simpa using ht)
    rwa [show off + 4 + 4 * i = off + 4 * (i + 1) by omega] at this
theorem RdA.get {T : Nat → Prop} {w : World} {us : List Ex} {a : Option Addr} (h : RdA T w us a) {i : Nat} {t : Ex} (ht : us[i]? = some t) : ∃ b' o', a = some ⟨b', o', none⟩ ∧ RdE T w t b' (o' + 4 * i) := by
  rcases h with h0 | ⟨b', o', h1, h2⟩
  · subst h0; cases ht
  · exact ⟨b', o', h1, h2.get ht⟩
theorem RdL.of_get {T : Nat → Prop} {w : World} : ∀ {us : List Ex} {b off : Nat}, (∀ (i : Nat) (t : Ex), us[i]? = some t → RdE T w t b (off + 4 * i)) → RdL T w us b off
  | [], _, _, _ => trivial
  | x :: r, b, off, h => ⟨by simpa using h 0 x rfl, RdL.of_get fun i t ht => by
    have := h (i + 1) t (by simpa using ht)
    rwa [show off + 4 * (i + 1) = off + 4 + 4 * i by omega] at this⟩

/-- one place, one tree -/
theorem NodeAt.uniq {w : World} {b off k s n v k' s' n' v'} (h : NodeAt w b off k s n v) (h' : NodeAt w b off k' s' n' v') : k = k' ∧ s = s' ∧ n = n' ∧ v = v' := by
  obtain ⟨cs, ty, hb, h0, h1, h2, h3⟩ := h
  obtain ⟨cs', ty', hb', h0', h1', h2', h3'⟩ := h'
  rw [hb] at hb'
  simp only [Option.some.injEq, Obj.cells.injEq] at hb'
  obtain ⟨rfl, rfl, _⟩ := hb'
  rw [h0] at h0'; rw [h1] at h1'; rw [h2] at h2'; rw [h3] at h3'
  simp only [Option.some.injEq, Value.int.injEq, Value.string.injEq, true_and] at h0' h1' h2' h3'
  exact ⟨h0', h1', h2', h3'⟩
mutual
theorem RdE.uniq {T T' : Nat → Prop} {w : World} : ∀ (t t' : Ex) {b off : Nat}, RdE T w t b off → RdE T' w t' b off → t = t'
  | .mk k s n us, .mk k' s' n' us', b, off, h, h' => by
    obtain ⟨_, a, c, hn, _, ha⟩ := h
    obtain ⟨_, a', c', hn', _, ha'⟩ := h'
    obtain ⟨rfl, rfl, rfl, hv⟩ := hn.uniq hn'
    simp only [Value.slice.injEq] at hv
    obtain ⟨rfl, hl, rfl⟩ := hv
    have : us = us' := by
      rcases ha with h0 | ⟨b1, o1, h1, h2⟩
      · subst h0; exact (List.eq_nil_of_length_eq_zero hl.symm).symm
      · rcases ha' with h0 | ⟨b2, o2, h3, h4⟩
        · subst h0; exact List.eq_nil_of_length_eq_zero hl
        · rw [h1] at h3
          simp only [Option.some.injEq, Addr.mk.injEq, and_true] at h3
          obtain ⟨rfl, rfl⟩ := h3
          exact RdL.uniq us us' hl h2 h4
    rw [this]
theorem RdL.uniq {T T' : Nat → Prop} {w : World} : ∀ (us us' : List Ex) {b off : Nat}, us.length = us'.length → RdL T w us b off → RdL T' w us' b off → us = us'
  | [], [], _, _, _, _, _ => rfl
  | [], _ :: _, _, _, hl, _, _ => by simp at hl
  | _ :: _, [], _, _, hl, _, _ => by simp at hl
  | t :: r, t' :: r', b, off, hl, h, h' => by
    rw [RdE.uniq t t' h.1 h'.1, RdL.uniq r r' (by simpa using hl) h.2 h'.2]
end

/-- boxed -/
theorem exV_boxed {T : Nat → Prop} {w : World} {t : Ex} {a : Option Addr} {c : Nat} (ha : RdA T w t.args a) (hc : t.args.length ≤ c) (ty : TypeId) :
    RdE (fun b => T b ∨ b = w.heap.size) (w.alloc (.cells #[.int .i64 t.kind, .string t.text, .int .i64 t.num, .slice a t.args.length c] ty)) t w.heap.size 0 :=
  RdE.mk' (.inr rfl) ⟨_, ty, heap_alloc_new w _, rfl, rfl, rfl, rfl⟩ hc ((ha.below (below_alloc w _)).mono fun i _ h => .inl h)

end Go.Proofs.YtpabngicbfcdkaaDoor
