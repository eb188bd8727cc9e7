/-
  GENERIC SMALL LAWS, over any program: integer slices that can be read ('Rd'), integer slices of the call's own ('Own'), append to those.
-/
import Derived.Test.YtajajkganamfiaaRows
import Derived.WalkKit
import Derived.ProofKit
import Derived.OpenShut
import Derived.WalkSpells
import Derived.WalkLawsBesides
import Derived.Lib.Hide
import Derived.SizedLaws
import Derived.ChangeSlices
namespace Go.Proofs.Ytajajkganamfiaa
open Go.RowKit
set_option linter.unusedVariables false
set_option linter.unusedSimpArgs false

/-- the n elements of a slice value with address a read as the numbers l -/
structure Rd (w : World) (k : IntKind) (a : Option Addr) (n : Nat) (l : List Int) : Prop where
  len : l.length = n
  max : n ≤ 9223372036854775807
  cell : ∀ i, i < n → ∃ b off, a = some ⟨b, off, none⟩ ∧ w.cell? ⟨b, off + i, none⟩ = some (.int k (l.getD i 0))
  wf : ∀ x ∈ l, (Lit.int k x).wf = true

theorem Rd.below {w w' : World} {k a n l} (h : Rd w k a n l) (hb : Below w.heap.size w w') : Rd w' k a n l :=
  ⟨h.len, h.max, fun i hi => by
    obtain ⟨b, off, ha, hc⟩ := h.cell i hi
    exact ⟨b, off, ha, (hb.cell (World.block_lt_of_cell? w _ hc)).trans hc⟩, h.wf⟩

theorem Rd.lt {w : World} {k a n l} (h : Rd w k a n l) : ∀ x, a = some x → 0 < n → x.block < w.heap.size := by
  intro x hx hn
  obtain ⟨b, off, ha, hc⟩ := h.cell 0 hn
  rw [hx] at ha; cases ha
  exact World.block_lt_of_cell? w _ hc

/-- a slice of the call's own, from block 'base' on -/
def Own (w : World) (base : Nat) (e : TypeId) (k : IntKind) (v : Value) (l : List Int) : Prop :=
  w.ownsRow base e 1 v l.length (l.map (Value.int k))

theorem Own.drew {w : World} {base e k v l} (h : Own w base e k v l) : Own w.drew base e k v l := h
theorem Own.alloc {w : World} {base e k v l} (h : Own w base e k v l) (o : Obj) : Own (w.alloc o) base e k v l := World.ownsRow.alloc h o
theorem Own.kept {w w' : World} {base e k v l row} (h : Own w base e k v l) (hg : w.grownBy w' row) (hne : v.ownBlock = none ∨ v.ownBlock ≠ row) : Own w' base e k v l := World.ownsRow.kept h hg hne

theorem Own.below {w w' : World} {base e k v l} (h : Own w base e k v l) (hb : Below w.heap.size w w') : Own w' base e k v l := by
  refine ⟨h.1, ?_⟩
  rcases h.2 with hn | ⟨g, cap, cur, rfl, hbb, hgg, rest⟩
  · exact .inl hn
  · exact .inr ⟨g, cap, cur, rfl, hbb, by rw [hb.block g (Array.getElem?_eq_some_iff.1 hgg).1]; exact hgg, rest⟩

theorem Own.mono {w : World} {base base' e k v l} (h : Own w base e k v l) (hb : base' ≤ base) : Own w base' e k v l := by
  refine ⟨h.1, ?_⟩
  rcases h.2 with hn | ⟨g, cap, cur, rfl, hbb, r⟩
  · exact .inl hn
  · exact .inr ⟨g, cap, cur, rfl, by omega, r⟩

theorem Own.rd {w : World} {base e k a n c l} (h : Own w base e k (.slice a n c) l) (hwf : ∀ x ∈ l, (Lit.int k x).wf = true) : Rd w k a n l := by
  have hw := h
  obtain ⟨h1, h2⟩ := h
  rcases h2 with ⟨hv, hn⟩ | ⟨g, cap, cur, hv, hb, hgg, hnc, hcm, hcs, htake⟩
  · cases hv
    have hl : l = [] := List.eq_nil_of_length_eq_zero hn
    subst hl
    exact ⟨rfl, by omega, fun i hi => by omega, hwf⟩
  · cases hv
    refine ⟨rfl, by unfold maxLen at hcm; omega, fun i hi => ⟨g, 0, rfl, ?_⟩, hwf⟩
    have := World.ownsRow.cellAt hw i (by simpa using hi)
    rw [Nat.zero_add, this]
    simp [List.getD, hi]

theorem Own.form {w : World} {base e k v l} (h : Own w base e k v l) : ∃ a c, v = .slice a l.length c := by
  rcases h.2 with ⟨rfl, h0⟩ | ⟨g, cap, cur, rfl, _⟩
  · exact ⟨none, 0, by rw [h0]⟩
  · exact ⟨_, _, rfl⟩

/-- the facts on an integer slice's type and its element's -/
structure Elt (P : Program) (t e : TypeId) (k : IntKind) (bytes : Nat) : Prop where
  ht : P.underlying t = some (.slice e)
  hi : ∃ i, P.info? e = some i ∧ i.zero = some (.int k 0) ∧ i.size = 1 ∧ i.bytes = bytes

theorem Rd.news {w : World} {k a n l} (h : Rd w k (some a) n l) : ∀ j u, (l.map (Value.int k))[j]? = some u → w.cell? (a.add j) = some u := by
  intro j u hu
  simp only [List.getElem?_map, Option.map_eq_some_iff] at hu
  obtain ⟨x, hx, rfl⟩ := hu
  have hj : j < l.length := (List.getElem?_eq_some_iff.1 hx).1
  obtain ⟨b, off, ha, hc⟩ := h.cell j (by rw [← h.len]; exact hj)
  cases ha
  rw [Addr.add_lit, hc]
  simp [List.getD, hx]

theorem grown_below {w w' : World} {v : Value} {base e k l} (ho : Own w base e k v l) (hg : w.grownBy w' v.ownBlock) (hb : base ≤ w.heap.size) : Below base w w' :=
  (Below.refl _ _).grown hg hb (fun x hx => (ho.lt x hx).1)

/-- append of a readable slice to one of the call's own -/
theorem app_rd {P : Program} {w : World} {ops : Array Oper} {rest : List Oper} {o : Oper} {a : Act} {Q : Exit → Act → World → Prop} (s x : Operand) {t e : TypeId} {k : IntKind} {bytes : Nat} (E : Elt P t e k bytes)
    (hgd : o.guard = none) (ho : o.op = .call { callee := .builtin .append, args := #[s, x], argTypes := #[t, t] })
    (base : Nat) (v : Value) (l : List Int) (hs : a.eval s = v) (hown : Own w base e k v l) (ad : Option Addr) (m c : Nat) (l2 : List Int) (hx : a.eval x = .slice ad m c) (hr : Rd w k ad m l2)
    (hlen : (l.length + l2.length) * bytes ≤ 140737488355328) (hpos : 0 < bytes) (hbase : base ≤ w.heap.size)
    (h : ∀ a' c' w', Own w' base e k (.slice a' (l ++ l2).length c') (l ++ l2) → w.grownBy w' v.ownBlock → wpList P ops Q rest (a.put o.dst (.slice a' (l ++ l2).length c')) w') : wpList P ops Q (o :: rest) a w := by
  obtain ⟨i, hi, hz, hsz, hby⟩ := E.hi
  have hm : m = l2.length := hr.len.symm
  have hb2 : (l.length + l2.length) ≤ 140737488355328 := Nat.le_trans (Nat.le_mul_of_pos_right _ hpos) hlen
  cases ad with
  | some ad =>
    refine wpList_append_own w hgd s x t ho base e i (.int k 0) 1 bytes E.ht hi hz hsz hby rfl (by decide) v l.length (l.map (Value.int k)) hs hown ad m c (l2.map (Value.int k)) hx (by simp [hm]) hr.news (ints_oneCell k l2)
      (by unfold maxLen; omega) (by rw [hm]; exact hlen) hbase ?_
    intro v' w' ho' hg' _
    have ho2 : Own w' base e k v' (l ++ l2) := by
      unfold Own
      rw [List.map_append, List.length_append, ← hm]; exact ho'
    obtain ⟨a', c', rfl⟩ := ho2.form
    exact h a' c' w' ho2 hg'
  | none =>
    have h0 : m = 0 := by
      rcases Nat.eq_zero_or_pos m with h0 | h0
      · exact h0
      · obtain ⟨b, off, ha, _⟩ := hr.cell 0 h0; cases ha
    subst h0
    have hl2 : l2 = [] := List.eq_nil_of_length_eq_zero hm.symm
    subst hl2
    refine wpList_plain hgd fun K hK' => ?_
    have hrun : (Builtin.append_ #[t, t] o.type #[v, .slice none 0 c]).run P w = .ok v w := by
      rcases hown.2 with ⟨rfl, h0⟩ | ⟨g, cap, cur, rfl, _, _, hnc, _⟩
      · simp [Builtin.append_, run_underlying E.ht, sizeOf, typeInfo, hi, Builtin.lenOf, Builtin.firstCells]
      · simp [Builtin.append_, run_underlying E.ht, sizeOf, typeInfo, hi, Builtin.lenOf, Builtin.firstCells, hnc, storeCells]
    unfold Oper.wp
    simp [execOp, ho, resolve, invoke, builtin, hs, hx, hrun, Result.andThen]
    obtain ⟨a', c', rfl⟩ := hown.form
    refine hK' _ _ ?_
    have := h a' c' w (by simpa using hown) (World.grownBy.refl _ _)
    simpa using this

/-- one new cell, as append's second argument has it -/
theorem Rd.one (w : World) (k : IntKind) (e : TypeId) (x : Int) (hx : (Lit.int k x).wf = true) : Rd (w.alloc (.cells #[.int k x] e)) k (some ⟨w.heap.size, 0, none⟩) 1 [x] :=
  ⟨rfl, by omega, fun i hi => ⟨_, _, rfl, by
    obtain rfl : i = 0 := by omega
    rw [Nat.zero_add, World.cell?_alloc_new]; rfl⟩, by simpa using hx⟩

/-- a new block of listed numbers -/
theorem Rd.lits (w : World) (k : IntKind) (e : TypeId) (l : List Int) (hm : l.length ≤ 9223372036854775807) (hx : ∀ x ∈ l, (Lit.int k x).wf = true) : Rd (w.alloc (.cells (l.map (Value.int k)).toArray e)) k (some ⟨w.heap.size, 0, none⟩) l.length l :=
  ⟨rfl, hm, fun i hi => ⟨_, _, rfl, by rw [Nat.zero_add, World.cell?_alloc_new]; simp [hi]⟩, hx⟩

theorem Own.lits (w : World) (k : IntKind) (e : TypeId) (l : List Int) (base : Nat) (hb : base ≤ w.heap.size) (hm : l.length ≤ 9223372036854775807) : Own (w.alloc (.cells (l.map (Value.int k)).toArray e)) base e k (.slice (some ⟨w.heap.size, 0, none⟩) l.length l.length) l := by
  have := World.ownsRow_lit (e := e) (base := base) (size := 1) w (l.map (Value.int k)).toArray l.length hb (by unfold maxLen; omega) (by simp)
  simpa [Own] using this

theorem Own.nil (w : World) (base : Nat) (e : TypeId) (k : IntKind) : Own w base e k (.slice none 0 0) [] := World.ownsRow_nil w base e 1

theorem below_alloc (w : World) (o : Obj) : Below w.heap.size w (w.alloc o) := (Below.refl _ _).alloc (Nat.le_refl _) o

theorem below_cell {W w1 : World} (hb : Below W.heap.size W w1) {a : Addr} {v : Value} (h : W.cell? a = some v) : w1.cell? a = some v := (hb.cell (World.block_lt_of_cell? W _ h)).trans h

theorem bthen {a b c : World} (h : Below a.heap.size a b) (k : Below b.heap.size b c) : Below a.heap.size a c := h.trans (k.mono h.size)

theorem bd_u8 {x : Int} (h : (Lit.int .u8 x).wf = true) : 0 ≤ x ∧ x ≤ 255 := by simpa [Lit.wf, IntKind.min, IntKind.max, IntKind.signed, IntKind.bits] using h
theorem bd_u64 {x : Int} (h : (Lit.int .u64 x).wf = true) : 0 ≤ x ∧ x ≤ 18446744073709551615 := by simpa [Lit.wf, IntKind.min, IntKind.max, IntKind.signed, IntKind.bits] using h
theorem bd_i64 {x : Int} (h : (Lit.int .i64 x).wf = true) : -9223372036854775808 ≤ x ∧ x ≤ 9223372036854775807 := by simpa [Lit.wf, IntKind.min, IntKind.max, IntKind.signed, IntKind.bits] using h

theorem run_str {P : Program} (w : World) {k a n l} (c : Nat) (h : Rd w k a n l) (hk : k = .u8) (src dst e : TypeId) (hs : P.underlying src = some (.slice e)) (he : P.underlying e = some (.int .u8)) (hd : P.underlying dst = some .string) :
    (convert src dst (.slice a n c)).run P w = .ok (.string (strOfNums l)) w := by
  subst hk
  rcases Nat.eq_zero_or_pos n with h0 | h0
  · have hl : l = [] := List.eq_nil_of_length_eq_zero (by rw [h.len]; exact h0)
    subst hl; subst h0
    cases a with
    | none => rw [run_convert_bytes_nil w src e hs he _ _ dst hd]; rfl
    | some a =>
      rw [run_convert_bytes_string w src dst e _ 0 c hs he hd, run_bytesToString w a 0 c [] (by simp [loadCells, loadCellsFrom])]
      rfl
  · obtain ⟨b, off, rfl, _⟩ := h.cell 0 h0
    exact run_convert_bytes_arg w src e hs he b off n c l h.len (fun i hi => by
      obtain ⟨b', off', hb, hc⟩ := h.cell i hi
      cases hb; exact hc) dst hd

theorem slice_reach {α : Type} {n sp by_ : Nat} {elems : List α} (h : (elems.length + sp) * by_ ≤ reachBytes) (hl : elems.length = n) : n * by_ ≤ 140737488351232 := by
  subst hl
  have h2 : elems.length * by_ ≤ (elems.length + sp) * by_ := Nat.mul_le_mul_right _ (by omega)
  have h3 : reachBytes = 140737488351232 := by decide
  omega

theorem str_reach {α : Type} {s : List α} {n : Nat} (h : s.length ≤ reachBytes) (hn : s.length = n := by rfl) : n ≤ 140737488351232 := by
  have h3 : reachBytes = 140737488351232 := by decide
  omega

theorem open_rd {H : Type} {enc : TypeId × Value → H} {P : Program} {W : World} {t e : TypeId} {k : IntKind} {a : Option Addr} {n c : Nat} {d : DataW H} {p : List MemPlace}
    (ht : P.underlying t = some (.slice e)) (he : P.underlying e = some (.int k)) (hc : P.cellsOf e = 1)
    (h : DataW.Trod enc P W 0 (fun _ => true) true t (.slice a n c) d p) : ∃ l, Rd W k a n l ∧ n ≤ c ∧ ((d = .nil ∧ n = 0) ∨ ∃ elems spare, d = .slice elems spare ∧ elems.length = n) := by
  obtain ⟨fuel, hf⟩ := h
  rcases Go.ChangeShapes.open_ints ht he hc hf with ⟨hcs, hx⟩ | ⟨x, l, c', zs, hcs, _, hl, hm, hz, hx, hcell, hwz⟩
  · simp [Value.cells] at hcs
    obtain ⟨rfl, rfl, rfl⟩ := hcs
    refine ⟨[], ⟨rfl, by omega, fun i hi => by omega, by simp⟩, by omega, .inl ⟨by simpa using congrArg Prod.fst hx, rfl⟩⟩
  · simp [Value.cells] at hcs
    obtain ⟨rfl, rfl, rfl⟩ := hcs
    have hz' : zs.length = c := by simpa using hz
    refine ⟨zs.take n, ⟨by rw [List.length_take]; omega, by unfold maxLen at hm; omega, fun i hi => ?_, fun y hy => hwz y (List.mem_of_mem_take hy)⟩, hl, .inr ⟨_, _, congrArg Prod.fst hx, by simp [Go.ChangeShapes.lits]; omega⟩⟩
    have h1 := hcell i (by omega)
    have hspot := World.cell?_spot (hcell 0 (by omega))
    obtain ⟨b, off, spot⟩ := x
    have : spot = none := by simpa [Addr.add] using hspot
    subst this
    refine ⟨b, off, rfl, ?_⟩
    rw [Addr.add_lit] at h1
    rw [h1]
    simp [List.getD, hi]

/-- make([]T, 0, n) with a size that is a number -/
theorem make_own {P : Program} {w : World} {ops : Array Oper} {rest : List Oper} {o : Oper} {a : Act} {Q : Exit → Act → World → Prop} {t e : TypeId} {k : IntKind} {bytes : Nat} (E : Elt P t e k bytes)
    (hgd : o.guard = none) (s x : Operand) (ho : o.op = Op.makeSlice t s x) (base : Nat) (kl kc : IntKind) (C : Int) (n : Nat) (hs : a.eval s = .int kl 0) (hx : a.eval x = .int kc C) (hC : C = (n : Int))
    (hb : n * bytes ≤ 281474976710656) (hn : n ≤ 9223372036854775807) (hbase : base ≤ w.heap.size)
    (h : ∀ w', Own w' base e k (.slice (some ⟨w.heap.size, 0, none⟩) 0 n) [] → w.grownBy w' none → wpList P ops Q rest (a.put o.dst (.slice (some ⟨w.heap.size, 0, none⟩) 0 n)) w') : wpList P ops Q (o :: rest) a w := by
  obtain ⟨i, hi, hz, hsz, hby⟩ := E.hi
  exact wpList_make_own w hgd s x t ho base e i (.int k 0) 1 E.ht hi hz hsz kl kc C n hs hx hC (by rw [hby, Nat.mul_comm]; exact hb) (by unfold maxLen; omega) hbase h

/-- make([]T, n) -/
theorem make_full {P : Program} {w : World} {ops : Array Oper} {rest : List Oper} {o : Oper} {a : Act} {Q : Exit → Act → World → Prop} {t e : TypeId} {k : IntKind} {bytes : Nat} (E : Elt P t e k bytes)
    (hgd : o.guard = none) (s x : Operand) (ho : o.op = Op.makeSlice t s x) (base : Nat) (kl kc : IntKind) (L C : Int) (n : Nat) (hs : a.eval s = .int kl L) (hx : a.eval x = .int kc C) (hL : L = (n : Int)) (hC : C = (n : Int))
    (hb : n * bytes ≤ 281474976710656) (hn : n ≤ 9223372036854775807) (hbase : base ≤ w.heap.size)
    (h : ∀ w', Own w' base e k (.slice (some ⟨w.heap.size, 0, none⟩) n n) (List.replicate n 0) → w.grownBy w' none → wpList P ops Q rest (a.put o.dst (.slice (some ⟨w.heap.size, 0, none⟩) n n)) w') : wpList P ops Q (o :: rest) a w := by
  obtain ⟨i, hi, hz, hsz, hby⟩ := E.hi
  refine wpList_make_full w hgd s x t ho base e i (.int k 0) 1 E.ht hi hz hsz kl kc L C n hs hx hL hC (by rw [hby, Nat.mul_comm]; exact hb) (by unfold maxLen; omega) hbase fun w' h1 h2 => h w' ?_ h2
  have e1 : (madeCells (Value.int k 0).cells (n * 1)).toList = (List.replicate n (0 : Int)).map (Value.int k) := by
    rw [Nat.mul_one, show (Value.int k 0).cells = #[.int k 0] from rfl, toList_madeCells_one, List.map_replicate]
  unfold Own
  rw [← e1, List.length_replicate]
  exact h1

theorem grown_below' {w w' : World} {base : Nat} (hg : w.grownBy w' none) (hb : base ≤ w.heap.size) : Below base w w' :=
  (Below.refl _ _).grown hg hb (fun x hx => by cases hx)

theorem Elt.elem {P : Program} {t e : TypeId} {k : IntKind} {bytes : Nat} (E : Elt P t e k bytes) : P.elem t = e := by
  have := E.ht
  unfold Program.elem
  rw [this]

theorem Elt.sz {P : Program} {t e : TypeId} {k : IntKind} {bytes : Nat} (E : Elt P t e k bytes) (w : World) : (sizeOf e).run P w = .ok 1 w := by
  obtain ⟨i, hi, _, hs, _⟩ := E.hi
  simp [sizeOf, typeInfo, hi, hs]

theorem Rd.drop_ {w : World} {k a n l} (h : Rd w k a n l) {c u : Nat} (hu : u ≤ n) (hnc : n ≤ c) : Rd w k (if c = u then a else a.map (·.add (u * 1))) (n - u) (l.drop u) := by
  refine ⟨by rw [List.length_drop, h.len], by have := h.max; omega, fun i hi => ?_, fun x hx => h.wf x (List.mem_of_mem_drop hx)⟩
  obtain ⟨b, off, rfl, hc⟩ := h.cell (u + i) (by omega)
  rw [if_neg (by omega)]
  refine ⟨b, off + u, by simp [Addr.add_lit], ?_⟩
  rw [Nat.add_assoc, hc]
  simp [List.getD]

theorem Rd.take_ {w : World} {k a n l} (h : Rd w k a n l) {u : Nat} (hu : u ≤ n) : Rd w k a u (l.take u) := by
  refine ⟨by rw [List.length_take, h.len]; omega, by have := h.max; omega, fun i hi => ?_, fun x hx => h.wf x (List.mem_of_mem_take hx)⟩
  obtain ⟨b, off, rfl, hc⟩ := h.cell i (by omega)
  refine ⟨b, off, rfl, ?_⟩
  rw [hc]
  simp [List.getD, hi]

/-- s[u:] -/
theorem Rd.cutL {P : Program} {t e : TypeId} {w0 : World} {k a n l} {bytes : Nat} (E : Elt P t e k bytes) (h : Rd w0 k a n l) {c u : Nat} (hu : u ≤ n) (hnc : n ≤ c) :
    ∃ a', Rd w0 k a' (n - u) (l.drop u) ∧ ∀ (kl : IntKind) (w : World), (Instr.slice t (.slice a n c) (some (.int kl (u : Int))) none none).run P w = .ok (.slice a' (n - u) (c - u)) w := by
  refine ⟨_, h.drop_ hu hnc, fun kl w => ?_⟩
  rw [run_slice_l (P := P) w t a n c (by rw [E.elem]; exact E.ht) kl u (by omega) (by omega), E.elem, E.sz]
  simp [sliced, Result.andThen]

/-- s[u:v] -/
theorem Rd.cutLH {P : Program} {t e : TypeId} {w0 : World} {k a n l} {bytes : Nat} (E : Elt P t e k bytes) (h : Rd w0 k a n l) {c u v : Nat} (hu : u ≤ v) (hv : v ≤ n) (hnc : n ≤ c) :
    ∃ a', Rd w0 k a' (v - u) ((l.take v).drop u) ∧ ∀ (kl kh : IntKind) (w : World), (Instr.slice t (.slice a n c) (some (.int kl (u : Int))) (some (.int kh (v : Int))) none).run P w = .ok (.slice a' (v - u) (c - u)) w := by
  refine ⟨_, (h.take_ hv).drop_ (c := c) hu (by omega), fun kl kh w => ?_⟩
  rw [run_slice_lh (P := P) w t a n c (by rw [E.elem]; exact E.ht) kl kh u v (by omega) (by omega) (by omega), E.elem, E.sz]
  simp [sliced, Result.andThen]

theorem Own.cap {w : World} {base e k a n c l} (h : Own w base e k (.slice a n c) l) : n ≤ c := by
  rcases h.2 with ⟨hv, hn⟩ | ⟨g, cap, cur, hv, _, _, hnc, _⟩
  · cases hv; omega
  · cases hv; exact hnc

/-- s[:v] -/
theorem Rd.cutH {P : Program} {t e : TypeId} {w0 : World} {k a n l} {bytes : Nat} (E : Elt P t e k bytes) (h : Rd w0 k a n l) {c v : Nat} (hv : v ≤ n) (hnc : n ≤ c) :
    ∃ a', Rd w0 k a' v (l.take v) ∧ ∀ (kh : IntKind) (w : World), (Instr.slice t (.slice a n c) none (some (.int kh (v : Int))) none).run P w = .ok (.slice a' v c) w := by
  have h0 := (h.take_ hv).drop_ (c := c) (Nat.zero_le _) (by omega)
  rw [List.drop_zero, Nat.sub_zero] at h0
  refine ⟨_, h0, fun kh w => ?_⟩
  rw [run_slice_h (P := P) w t a n c (by rw [E.elem]; exact E.ht) kh v (by omega) (by omega), E.elem, E.sz]
  simp [sliced, Result.andThen]

theorem ret_eq {a b : Value} (h : a = b) : Ending.returned a = .returned b := by rw [h]

theorem drop_cons_d {α : Type} {l : List α} {d : α} {k : Nat} (h : k < l.length) : l.drop k = l.getD k d :: l.drop (k + 1) := by
  rw [List.drop_eq_getElem_cons h]; simp [List.getD, h]
theorem drop_cons {l : List Int} {k : Nat} (h : k < l.length) : l.drop k = l.getD k 0 :: l.drop (k + 1) := drop_cons_d h
theorem getD_take_snoc {α : Type} {l : List α} {d : α} {i : Nat} (h : i < l.length) : l.take (i + 1) = l.take i ++ [l.getD i d] := by
  rw [List.take_succ_eq_append_getElem h]; simp [List.getD, h]
theorem getD_mem {α : Type} {l : List α} {d : α} {i : Nat} (h : i < l.length) : l.getD i d ∈ l := by simp [List.getD, h]

end Go.Proofs.Ytajajkganamfiaa
