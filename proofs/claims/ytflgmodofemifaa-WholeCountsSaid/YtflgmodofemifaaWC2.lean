/-
  Joined texts: GENERIC LAWS, over any program: rows of whatever cells that can be read or are the call's own; append, make, store. · GENERIC LAWS, over any program: what a call may have written ('Fr'), and what stands besides; append, with where the new row lies. · digests: Unit, Letter, Join, Repeat: the scale is a power, the value is below P. · checked arithmetic of lengths, where it does not fail.
-/
import Derived.Test.YtflgmodofemifaaWC1
import Derived.Maps.AppendAt
import Derived.IntWalk
import Derived.Deep.LoopGhost
import Derived.Deep.Cut
import Derived.Deep.CutRange
import Derived.Deep.DeepCutAuto
import Derived.Deep.RegionLaw
import Derived.Deep.RegionHeld3

/- GENERIC LAWS, over any program: rows of whatever cells that can be read or are the call's own; append, make, store. -/
namespace Go.Proofs.Ytflgmodofemifaa
open Go.RowKit
set_option linter.unusedVariables false
set_option linter.unusedSimpArgs false

/-- the cells of the n elements (size cells each) of a slice value with address a -/
structure RdG (w : World) (size : Nat) (a : Option Addr) (n : Nat) (xs : List Value) : Prop where
  len : xs.length = n * size
  cell : ∀ j u, xs[j]? = some u → ∃ b off, a = some ⟨b, off, none⟩ ∧ w.cell? ⟨b, off + j, none⟩ = some u

theorem RdG.below {w w' : World} {size a n xs} (h : RdG w size a n xs) (hb : Below w.heap.size w w') : RdG w' size a n xs :=
  ⟨h.len, fun j u hu => by
    obtain ⟨b, off, ha, hc⟩ := h.cell j u hu
    exact ⟨b, off, ha, below_cell hb hc⟩⟩

theorem RdG.news {w : World} {size a n xs} (h : RdG w size (some a) n xs) : ∀ j u, xs[j]? = some u → w.cell? (a.add j) = some u := by
  intro j u hu
  obtain ⟨b, off, ha, hc⟩ := h.cell j u hu
  cases ha
  rw [Addr.add_lit]; exact hc

/-- a new block of listed cells -/
theorem RdG.lits (w : World) (size : Nat) (e : TypeId) (n : Nat) (xs : List Value) (hl : xs.length = n * size) : RdG (w.alloc (.cells xs.toArray e)) size (some ⟨w.heap.size, 0, none⟩) n xs :=
  ⟨hl, fun j u hu => ⟨_, _, rfl, by rw [Nat.zero_add, World.cell?_alloc_new]; simpa using hu⟩⟩

/-- facts on a slice's type and its element's -/
structure EltG (P : Program) (t e : TypeId) (z : Value) (size bytes : Nat) : Prop where
  ht : P.underlying t = some (.slice e)
  hi : ∃ i, P.info? e = some i ∧ i.zero = some z ∧ i.size = size ∧ i.bytes = bytes
  hz : z.cells.size = size
  h0 : 0 < size

abbrev Row (w : World) (base : Nat) (e : TypeId) (size : Nat) (v : Value) (n : Nat) (xs : List Value) : Prop := w.ownsRow base e size v n xs

theorem Row.form {w : World} {base e size v n xs} (h : Row w base e size v n xs) : ∃ a c, v = .slice a n c := by
  rcases h.2 with ⟨rfl, h0⟩ | ⟨g, cap, cur, rfl, _⟩
  · exact ⟨none, 0, by rw [h0]⟩
  · exact ⟨_, _, rfl⟩

theorem Row.below {w w' : World} {base e size v n xs} (h : Row w base e size v n xs) (hb : Below w.heap.size w w') : Row w' base e size v n xs := by
  refine ⟨h.1, ?_⟩
  rcases h.2 with hn | ⟨g, cap, cur, rfl, hbb, hgg, rest⟩
  · exact .inl hn
  · exact .inr ⟨g, cap, cur, rfl, hbb, by rw [hb.block g (Array.getElem?_eq_some_iff.1 hgg).1]; exact hgg, rest⟩

theorem Row.mono {w : World} {base base' e size v n xs} (h : Row w base e size v n xs) (hb : base' ≤ base) : Row w base' e size v n xs := by
  refine ⟨h.1, ?_⟩
  rcases h.2 with hn | ⟨g, cap, cur, rfl, hbb, r⟩
  · exact .inl hn
  · exact .inr ⟨g, cap, cur, rfl, by omega, r⟩

theorem Row.cap {w : World} {base e size a n c m xs} (h : Row w base e size (.slice a n c) m xs) : n ≤ c := by
  rcases h.2 with ⟨hv, hn⟩ | ⟨g, cap, cur, hv, _, _, hnc, _⟩
  · cases hv; omega
  · cases hv; exact hnc

theorem Row.rdG {w : World} {base e size a n c xs} (h : Row w base e size (.slice a n c) n xs) : RdG w size a n xs := by
  refine ⟨h.1, fun j u hu => ?_⟩
  have hj : j < n * size := by rw [← h.1]; exact (List.getElem?_eq_some_iff.1 hu).1
  rcases h.2 with ⟨hv, hn⟩ | ⟨g, cap, cur, hv, _⟩
  · subst hn; omega
  · cases hv
    refine ⟨g, 0, rfl, ?_⟩
    rw [Nat.zero_add, World.ownsRow.cellAt h j hj, hu]

/-- two rows of different element types lie in different blocks -/
theorem Row.apart {w : World} {base base' e e' size size' v v' n n' xs xs'} (h : Row w base e size v n xs) (h' : Row w base' e' size' v' n' xs') (hne : e ≠ e') : v.ownBlock = none ∨ v.ownBlock ≠ v'.ownBlock := by
  rcases h.2 with ⟨rfl, _⟩ | ⟨g, cap, cur, rfl, _, hg, _⟩
  · exact .inl rfl
  · refine .inr ?_
    rcases h'.2 with ⟨rfl, _⟩ | ⟨g', cap', cur', rfl, _, hg', _⟩
    · simp [Value.ownBlock]
    · intro hh
      have hgg : g = g' := by simpa [Value.ownBlock] using hh
      subst hgg
      rw [hg] at hg'
      simp only [Option.some.injEq, Obj.cells.injEq] at hg'
      exact hne hg'.2.1

/-- a row stays while another one, of another element type, is written -/
theorem Row.keep {w w' : World} {base base' e e' size size' v v' n n' xs xs'} (h : Row w base e size v n xs) (h' : Row w base' e' size' v' n' xs') (hne : e ≠ e') (hg : w.grownBy w' v'.ownBlock) : Row w' base e size v n xs :=
  World.ownsRow.kept h hg (h.apart h' hne)

theorem Row.grown {w w' : World} {base e size v n xs} (ho : Row w base e size v n xs) (hg : w.grownBy w' v.ownBlock) (hb : base ≤ w.heap.size) : Below base w w' :=
  (Below.refl _ _).grown hg hb (fun x hx => (World.ownsRow.lt ho x hx).1)

/-- append of readable cells to a row of the call's own -/
theorem app_row {P : Program} {w : World} {ops : Array Oper} {rest : List Oper} {o : Oper} {a : Act} {Q : Exit → Act → World → Prop} (s x : Operand) {t e : TypeId} {z : Value} {size bytes : Nat} (E : EltG P t e z size bytes)
    (hgd : o.guard = none) (ho : o.op = .call { callee := .builtin .append, args := #[s, x], argTypes := #[t, t] })
    (base : Nat) (v : Value) (n : Nat) (xs : List Value) (hs : a.eval s = v) (hown : Row w base e size v n xs) (ad : Option Addr) (m c : Nat) (news : List Value) (hx : a.eval x = .slice ad m c) (hr : RdG w size ad m news) (h1 : ∀ u ∈ news, u.oneCell' = true)
    (hlen : (n + m) * bytes ≤ 140737488355328) (hpos : 0 < bytes) (hbase : base ≤ w.heap.size)
    (h : ∀ a' c' w', Row w' base e size (.slice a' (n + m) c') (n + m) (xs ++ news) → w.grownBy w' v.ownBlock → wpList P ops Q rest (a.put o.dst (.slice a' (n + m) c')) w') : wpList P ops Q (o :: rest) a w := by
  obtain ⟨i, hi, hz, hsz, hby⟩ := E.hi
  have hb2 : (n + m) ≤ 140737488355328 := Nat.le_trans (Nat.le_mul_of_pos_right _ hpos) hlen
  cases ad with
  | some ad =>
    refine wpList_append_own w hgd s x t ho base e i z size bytes E.ht hi hz hsz hby E.hz E.h0 v n xs hs hown ad m c news hx hr.len hr.news h1 (by unfold maxLen; omega) hlen hbase ?_
    intro v' w' ho' hg' _
    obtain ⟨a', c', rfl⟩ := Row.form ho'
    exact h a' c' w' ho' hg'
  | none =>
    have hl0 : news = [] := by
      cases news with
      | nil => rfl
      | cons u r => obtain ⟨b, off, ha, _⟩ := hr.cell 0 u rfl; cases ha
    subst hl0
    have h0 : m = 0 := by
      have := hr.len
      have h3 := E.h0
      simp only [List.length_nil] at this
      rcases Nat.mul_eq_zero.1 this.symm with h4 | h4 <;> omega
    subst h0
    refine wpList_plain hgd fun K hK' => ?_
    have hrun : (Builtin.append_ #[t, t] o.type #[v, .slice none 0 c]).run P w = .ok v w := by
      rcases hown.2 with ⟨rfl, h0⟩ | ⟨g, cap, cur, rfl, _, _, hnc, _⟩
      · simp [Builtin.append_, run_underlying E.ht, sizeOf, typeInfo, hi, Builtin.lenOf, Builtin.firstCells]
      · simp [Builtin.append_, run_underlying E.ht, sizeOf, typeInfo, hi, Builtin.lenOf, Builtin.firstCells, hnc, storeCells]
    unfold Oper.wp
    simp [execOp, ho, resolve, invoke, builtin, hs, hx, hrun, Result.andThen]
    obtain ⟨a', c', rfl⟩ := Row.form hown
    refine hK' _ _ ?_
    have := h a' c' w (by simpa using hown) (World.grownBy.refl _ _)
    simpa using this

/-- make([]T, n) -/
theorem make_row {P : Program} {w : World} {ops : Array Oper} {rest : List Oper} {o : Oper} {a : Act} {Q : Exit → Act → World → Prop} {t e : TypeId} {z : Value} {size bytes : Nat} (E : EltG P t e z size bytes)
    (hgd : o.guard = none) (s x : Operand) (ho : o.op = Op.makeSlice t s x) (base : Nat) (kl kc : IntKind) (L C : Int) (n : Nat) (hs : a.eval s = .int kl L) (hx : a.eval x = .int kc C) (hL : L = (n : Int)) (hC : C = (n : Int))
    (hb : n * bytes ≤ 281474976710656) (hn : n ≤ 9223372036854775807) (hbase : base ≤ w.heap.size)
    (h : ∀ w', Row w' base e size (.slice (some ⟨w.heap.size, 0, none⟩) n n) n (madeCells z.cells (n * size)).toList → w.grownBy w' none → wpList P ops Q rest (a.put o.dst (.slice (some ⟨w.heap.size, 0, none⟩) n n)) w') : wpList P ops Q (o :: rest) a w := by
  obtain ⟨i, hi, hz, hsz, hby⟩ := E.hi
  exact wpList_make_full w hgd s x t ho base e i z size E.ht hi hz hsz kl kc L C n hs hx hL hC (by rw [hby, Nat.mul_comm]; exact hb) (by unfold maxLen; omega) hbase h

theorem splice_take {α : Type} (L : List α) (m j : Nat) (news : List α) (h : j + news.length ≤ m) (hm : m ≤ L.length) :
    (L.take j ++ news ++ L.drop (j + news.length)).take m = (L.take m).take j ++ news ++ (L.take m).drop (j + news.length) := by
  have e1 : (L.take j ++ news).length = j + news.length := by rw [List.length_append, List.length_take]; omega
  rw [List.take_append, List.take_of_length_le (by omega), e1, List.drop_take, List.take_take, Nat.min_eq_left (by omega)]

/-- a store into a row of the call's own -/
theorem store_row {P : Program} {w : World} {ops : Array Oper} {rest : List Oper} {o : Oper} {a : Act} {Q : Exit → Act → World → Prop} (hgd : o.guard = none) (ty : TypeId) (x y : Operand) (ho : o.op = .store ty x y)
    (g j : Nat) (hx : a.eval x = .pointer (some ⟨g, j, none⟩)) (u : Value) (hy : a.eval y = u) (news : List Value) (hn : u.cells.toList = news) (hi : (P.info? ty).map (·.size) = some news.length) (h1 : ∀ v ∈ news, v.oneCell' = true)
    (base : Nat) (e : TypeId) (size n cap : Nat) (xs : List Value) (hown : Row w base e size (.slice (some ⟨g, 0, none⟩) n cap) n xs) (hj : j + news.length ≤ xs.length)
    (h : ∀ w', Row w' base e size (.slice (some ⟨g, 0, none⟩) n cap) n (xs.take j ++ news ++ xs.drop (j + news.length)) → w.grownBy w' (some g) → wpList P ops Q rest (a.put o.dst undef) w') : wpList P ops Q (o :: rest) a w := by
  refine wpList_plain hgd fun K hK => ?_
  rcases hown.2 with ⟨hv, _⟩ | ⟨g', cap', cur, hv, hbg, hg, hnc, hcm, hcs, htake⟩
  · cases hv
  · cases hv
    have hxl := hown.1
    have hle : n * size ≤ cap * size := Nat.mul_le_mul_right _ hnc
    have hst := run_storeCells_at P g j e news 0 cur w hg (by omega) h1
    simp only [Nat.add_zero] at hst
    have hrow : (w.setRow g (cur.toList.take j ++ news ++ cur.toList.drop (j + news.length)).toArray).heap[g]? = _ := setRow_heap w g cur _ e _ hg
    refine (?_ : Oper.wp P o a w K Q)
    cases hq : P.info? ty with
    | none => simp [hq] at hi
    | some i =>
      have hs : i.size = news.length := by simpa [hq] using hi
      have hc : u.cells = news.toArray := by rw [← hn]
      unfold Oper.wp execOp
      have hrun : (storeVar ty ⟨g, j, none⟩ u).run P w = .ok () (w.setRow g (cur.toList.take j ++ news ++ cur.toList.drop (j + news.length)).toArray) := by
        simp [storeVar, sizeOf, typeInfo, hq, hc, hs, hst]
      simp only [ho, hx, hy, Instr.storeAt, Instr.sureAddr, Sem.run_bind, Sem.run_pure, Result.andThen_ok, hrun]
      refine hK _ _ (h _ ⟨by simp; omega, .inr ⟨g, cap, _, rfl, hbg, hrow, hnc, hcm, by simp; omega, ?_⟩⟩ ⟨rfl, rfl, rfl, by simp, fun k _ hk => setRow_other w g k _ (fun e => hk (by simp [e]))⟩)
      subst htake
      exact splice_take cur.toList (n * size) j news (by omega) (by rw [Array.length_toList]; omega)

end Go.Proofs.Ytflgmodofemifaa

/- GENERIC LAWS, over any program: what a call may have written ('Fr'), and what stands besides; append, with where the new row lies. -/
namespace Go.Proofs.Ytflgmodofemifaa
open Go.RowKit
set_option linter.unusedVariables false
set_option linter.unusedSimpArgs false

/-- what stood outside S is as it was -/
structure Fr (S : Nat → Prop) (w w' : World) : Prop where
  os : w'.os = w.os
  tape : w'.tape = w.tape
  output : w'.output = w.output
  size : w.heap.size ≤ w'.heap.size
  block : ∀ i, i < w.heap.size → ¬ S i → w'.heap[i]? = w.heap[i]?

theorem Fr.refl (S : Nat → Prop) (w : World) : Fr S w w := ⟨rfl, rfl, rfl, Nat.le_refl _, fun _ _ _ => rfl⟩
theorem Fr.then {S S' : Nat → Prop} {a b c : World} (h : Fr S a b) (k : Fr S' b c) (hs : ∀ i, S' i → S i ∨ a.heap.size ≤ i) : Fr S a c :=
  ⟨k.os.trans h.os, k.tape.trans h.tape, k.output.trans h.output, Nat.le_trans h.size k.size, fun i hi hn => (k.block i (Nat.lt_of_lt_of_le hi h.size) (fun h2 => by rcases hs i h2 with h3 | h3; exact hn h3; omega)).trans (h.block i hi hn)⟩
theorem Fr.trans {S : Nat → Prop} {a b c : World} (h : Fr S a b) (k : Fr S b c) : Fr S a c := h.then k fun _ h => .inl h
theorem Fr.mono {S T : Nat → Prop} {a b : World} (h : Fr S a b) (hs : ∀ i, S i → T i) : Fr T a b := ⟨h.os, h.tape, h.output, h.size, fun i hi hn => h.block i hi fun h2 => hn (hs i h2)⟩
theorem Fr.of_below {S : Nat → Prop} {a b : World} (h : Below a.heap.size a b) : Fr S a b := ⟨h.os, h.tape, h.output, h.size, fun i hi _ => h.block i hi⟩
theorem Fr.of_grown {S : Nat → Prop} {a b : World} {row : Option Nat} (h : a.grownBy b row) (hr : ∀ k, row = some k → S k) : Fr S a b :=
  ⟨h.os, h.tape, h.output, h.size, fun i hi hn => h.block i hi fun e => hn (hr i e.symm)⟩
theorem Fr.setCell {S : Nat → Prop} {a b : World} (h : Fr S a b) {p : Addr} (hp : S p.block) (u : Value) : Fr S a (b.setCell p u) :=
  h.trans ⟨rfl, rfl, rfl, by simp [World.setCell], fun k _ hn => Below.heap_setCell _ _ _ _ (fun e => hn (e ▸ hp))⟩
theorem Fr.alloc {S : Nat → Prop} {a b : World} (h : Fr S a b) (o : Obj) : Fr S a (b.alloc o) := h.trans (.of_below (below_alloc _ _))
theorem Fr.drew {S : Nat → Prop} {a b : World} (h : Fr S a b) : Fr S a b.drew := ⟨h.os, h.tape, h.output, h.size, h.block⟩
theorem Fr.cell {S : Nat → Prop} {a b : World} (h : Fr S a b) {x : Addr} {v : Value} (hc : a.cell? x = some v) (hn : ¬ S x.block) : b.cell? x = some v :=
  (World.cell?_of_block (w := a) (h.block x.block (World.block_lt_of_cell? a _ hc) hn)).trans hc
theorem Fr.frozen {S : Nat → Prop} {a b : World} (h : Fr S a b) {x : Addr} (hl : x.block < a.heap.size) (hn : ¬ S x.block) : b.frozen? x = a.frozen? x :=
  World.frozen?_of_block (w := a) (h.block x.block hl hn)
theorem Fr.below {S : Nat → Prop} {a b : World} (h : Fr S a b) {B : Nat} (hs : ∀ i, S i → B ≤ i) (hB : B ≤ a.heap.size) : Below B a b :=
  ⟨h.os, h.tape, h.output, h.size, fun i hi => h.block i (by omega) fun h2 => by have := hs i h2; omega⟩

/-- a readable list of integers, in blocks of T -/
structure RdF (w : World) (T : Nat → Prop) (k : IntKind) (a : Option Addr) (n : Nat) (l : List Int) : Prop where
  rd : Rd w k a n l
  foot : ∀ x, a = some x → 0 < n → T x.block
theorem RdF.fr {w w' : World} {S T : Nat → Prop} {k a n l} (h : RdF w T k a n l) (hf : Fr S w w') (hd : ∀ i, T i → ¬ S i) : RdF w' T k a n l :=
  ⟨⟨h.rd.len, h.rd.max, fun i hi => by
    obtain ⟨b, off, ha, hc⟩ := h.rd.cell i hi
    exact ⟨b, off, ha, hf.cell hc (hd b (h.foot _ ha (by omega)))⟩, h.rd.wf⟩, h.foot⟩
theorem RdF.below {w w' : World} {T : Nat → Prop} {k a n l} (h : RdF w T k a n l) (hb : Below w.heap.size w w') : RdF w' T k a n l := ⟨h.rd.below hb, h.foot⟩
theorem RdF.mono {w : World} {T T' : Nat → Prop} {k a n l} (h : RdF w T k a n l) (hT : ∀ i, T i → T' i) : RdF w T' k a n l := ⟨h.rd, fun x hx hn => hT _ (h.foot x hx hn)⟩
theorem RdF.lt {w : World} {T : Nat → Prop} {k a n l} (h : RdF w T k a n l) : RdF w (fun i => T i ∧ i < w.heap.size) k a n l :=
  ⟨h.rd, fun x hx hn => ⟨h.foot x hx hn, h.rd.lt x hx hn⟩⟩

theorem Row.fr {w w' : World} {S : Nat → Prop} {base e size v n xs} (h : Row w base e size v n xs) (hf : Fr S w w') (hd : ∀ g, v.ownBlock = some g → ¬ S g) : Row w' base e size v n xs := by
  refine ⟨h.1, ?_⟩
  rcases h.2 with hn | ⟨g, cap, cur, rfl, hbb, hgg, rest⟩
  · exact .inl hn
  · exact .inr ⟨g, cap, cur, rfl, hbb, by rw [hf.block g (Array.getElem?_eq_some_iff.1 hgg).1 (hd g rfl)]; exact hgg, rest⟩
theorem Row.block_lt {w : World} {base e size v n xs g} (h : Row w base e size v n xs) (hg : v.ownBlock = some g) : g < w.heap.size ∧ base ≤ g := by
  rcases h.2 with ⟨rfl, _⟩ | ⟨g', cap, cur, rfl, hbb, hgg, rest⟩
  · cases hg
  · cases hg; exact ⟨(Array.getElem?_eq_some_iff.1 hgg).1, hbb⟩

/-- append of readable cells to a row of the call's own: where the new row lies is told -/
theorem app_row_at {P : Program} {w : World} {ops : Array Oper} {rest : List Oper} {o : Oper} {a : Act} {Q : Exit → Act → World → Prop} (s x : Operand) {t e : TypeId} {z : Value} {size bytes : Nat} (E : EltG P t e z size bytes)
    (hgd : o.guard = none) (ho : o.op = .call { callee := .builtin .append, args := #[s, x], argTypes := #[t, t] })
    (base : Nat) (v : Value) (n : Nat) (xs : List Value) (hs : a.eval s = v) (hown : Row w base e size v n xs) (ad : Option Addr) (m c : Nat) (news : List Value) (hx : a.eval x = .slice ad m c) (hr : RdG w size ad m news) (h1 : ∀ u ∈ news, u.oneCell' = true)
    (hlen : (n + m) * bytes ≤ 140737488355328) (hpos : 0 < bytes) (hbase : base ≤ w.heap.size)
    (h : ∀ a' c' w', Row w' base e size (.slice a' (n + m) c') (n + m) (xs ++ news) → w.grownBy w' v.ownBlock → ((Value.slice a' (n + m) c').ownBlock = v.ownBlock ∨ (Value.slice a' (n + m) c').ownBlock = some w.heap.size) → wpList P ops Q rest (a.put o.dst (.slice a' (n + m) c')) w') : wpList P ops Q (o :: rest) a w := by
  obtain ⟨i, hi, hz, hsz, hby⟩ := E.hi
  have hb2 : (n + m) ≤ 140737488355328 := Nat.le_trans (Nat.le_mul_of_pos_right _ hpos) hlen
  cases ad with
  | some ad =>
    refine wpList_append_own_at w hgd s x t ho base e i z size bytes E.ht hi hz hsz hby E.hz E.h0 v n xs hs hown ad m c news hx hr.len hr.news h1 (by unfold maxLen; omega) hlen hbase ?_
    intro v' w' ho' hg' _ hat
    obtain ⟨a', c', rfl⟩ := Row.form ho'
    exact h a' c' w' ho' hg' hat
  | none =>
    have hl0 : news = [] := by
      cases news with
      | nil => rfl
      | cons u r => obtain ⟨b, off, ha, _⟩ := hr.cell 0 u rfl; cases ha
    subst hl0
    have h0 : m = 0 := by
      have := hr.len
      have h3 := E.h0
      simp only [List.length_nil] at this
      rcases Nat.mul_eq_zero.1 this.symm with h4 | h4 <;> omega
    subst h0
    refine wpList_plain hgd fun K hK' => ?_
    have hrun : (Builtin.append_ #[t, t] o.type #[v, .slice none 0 c]).run P w = .ok v w := by
      rcases hown.2 with ⟨rfl, h0⟩ | ⟨g, cap, cur, rfl, _, _, hnc, _⟩
      · simp [Builtin.append_, run_underlying E.ht, sizeOf, typeInfo, hi, Builtin.lenOf, Builtin.firstCells]
      · simp [Builtin.append_, run_underlying E.ht, sizeOf, typeInfo, hi, Builtin.lenOf, Builtin.firstCells, hnc, storeCells]
    unfold Oper.wp
    simp [execOp, ho, resolve, invoke, builtin, hs, hx, hrun, Result.andThen]
    obtain ⟨a', c', rfl⟩ := Row.form hown
    refine hK' _ _ ?_
    have := h a' c' w (by simpa using hown) (World.grownBy.refl _ _) (.inl rfl)
    simpa using this

/-- the same at a step of a region that draws its order -/
theorem step_app_row_at {P : Program} {w : World} {ops : Array Oper} {o : Oper} {a : Act} {K : Act → World → Prop} {Q : Exit → Act → World → Prop} {G : Prop} (s x : Operand) {t e : TypeId} {z : Value} {size bytes : Nat} (E : EltG P t e z size bytes)
    (hgd : o.guard = none) (ho : o.op = .call { callee := .builtin .append, args := #[s, x], argTypes := #[t, t] })
    (base : Nat) (v : Value) (n : Nat) (xs : List Value) (hs : a.eval s = v) (hown : Row w base e size v n xs) (ad : Option Addr) (m c : Nat) (news : List Value) (hx : a.eval x = .slice ad m c) (hr : RdG w size ad m news) (h1 : ∀ u ∈ news, u.oneCell' = true)
    (hlen : (n + m) * bytes ≤ 140737488355328) (hpos : 0 < bytes) (hbase : base ≤ w.heap.size)
    (h : ∀ a' c' w', Row w' base e size (.slice a' (n + m) c') (n + m) (xs ++ news) → w.grownBy w' v.ownBlock → ((Value.slice a' (n + m) c').ownBlock = v.ownBlock ∨ (Value.slice a' (n + m) c').ownBlock = some w.heap.size) → K (a.put o.dst (.slice a' (n + m) c')) w') : if Region.wanted o (yielded ops a.tmps) = true then Oper.wp P o a w K Q else G := by
  have hw : Region.wanted o (yielded ops a.tmps) = true := by simp [Region.wanted, hgd]
  rw [if_pos hw]
  obtain ⟨i, hi, hz, hsz, hby⟩ := E.hi
  have hb2 : (n + m) ≤ 140737488355328 := Nat.le_trans (Nat.le_mul_of_pos_right _ hpos) hlen
  cases ad with
  | some ad =>
    obtain ⟨v', w', hrun, ho', hg', _, hat⟩ := run_append_own_at (P := P) w base t o.type e i z size bytes E.ht hi hz hsz hby E.hz E.h0 v n xs hown ad m c news hr.len hr.news h1 (by unfold maxLen; omega) hlen hbase
    obtain ⟨a', c', rfl⟩ := Row.form ho'
    unfold Oper.wp execOp
    simp only [ho, resolve, invoke, builtin, Sem.run_bind, Sem.run_pure, Result.andThen_ok, List.map_toArray, List.map_cons, List.map_nil, hs, hx, hrun]
    exact h a' c' w' ho' hg' hat
  | none =>
    have hl0 : news = [] := by
      cases news with
      | nil => rfl
      | cons u r => obtain ⟨b, off, ha, _⟩ := hr.cell 0 u rfl; cases ha
    subst hl0
    have h0 : m = 0 := by
      have := hr.len
      have h3 := E.h0
      simp only [List.length_nil] at this
      rcases Nat.mul_eq_zero.1 this.symm with h4 | h4 <;> omega
    subst h0
    have hrun : (Builtin.append_ #[t, t] o.type #[v, .slice none 0 c]).run P w = .ok v w := by
      rcases hown.2 with ⟨rfl, h0⟩ | ⟨g, cap, cur, rfl, _, _, hnc, _⟩
      · simp [Builtin.append_, run_underlying E.ht, sizeOf, typeInfo, hi, Builtin.lenOf, Builtin.firstCells]
      · simp [Builtin.append_, run_underlying E.ht, sizeOf, typeInfo, hi, Builtin.lenOf, Builtin.firstCells, hnc, storeCells]
    unfold Oper.wp execOp
    simp only [ho, resolve, invoke, builtin, Sem.run_bind, Sem.run_pure, Result.andThen_ok, List.map_toArray, List.map_cons, List.map_nil, hs, hx, hrun]
    obtain ⟨a', c', rfl⟩ := Row.form hown
    have := h a' c' w (by simpa using hown) (World.grownBy.refl _ _) (.inl rfl)
    simpa [Oper.upon] using this

theorem set_same {w : World} {a : Addr} {u v : Value} (h : w.cell? a = some u) : (w.setCell a v).cell? a = some v := World.cell?_setCell_same' w a v (by rw [h]; rfl)
theorem set_other {w : World} {a b : Addr} {u v : Value} (hne : a ≠ b) (h : w.cell? b = some u) : (w.setCell a v).cell? b = some u := by
  have := World.cell?_setCell_other (w := w) (a := a) (b := b) (v := v) hne
  rw [this]; exact h
theorem RdG.drew {w : World} {size a n xs} (h : RdG w size a n xs) : RdG w.drew size a n xs := ⟨h.len, h.cell⟩
theorem Row.drew {w : World} {base e size v n xs} (h : Row w base e size v n xs) : Row w.drew base e size v n xs := h
theorem Row.alloc {w : World} {base e size v n xs} (h : Row w base e size v n xs) (o : Obj) : Row (w.alloc o) base e size v n xs := World.ownsRow.alloc h o

theorem heap_new_at {w : World} {o : Obj} {k : Nat} (hk : k = w.heap.size) : (w.alloc o).heap[k]? = some o := by subst hk; exact heap_alloc_new w o
theorem heap_new_at2 {w : World} {o o2 : Obj} {k : Nat} (hk : k = w.heap.size) : ((w.alloc o).alloc o2).heap[k]? = some o := (Below.heap_alloc _ _ _ (by subst hk; simp)).trans (heap_new_at hk)

theorem row_block {w : World} {g : Nat} {e : TypeId} {size : Nat} (h : w.heap[g]? = some (.cells #[] e (0, 0))) : Row w 0 e size (.slice (some ⟨g, 0, none⟩) 0 0) 0 [] :=
  ⟨by simp, .inr ⟨g, 0, #[], rfl, Nat.zero_le _, h, Nat.le_refl _, Nat.zero_le _, by simp, by simp⟩⟩
theorem rdG_block {w : World} {g : Nat} {e : TypeId} {size n : Nat} {cs : Array Value} (h : w.heap[g]? = some (.cells cs e (0, 0))) (hl : cs.size = n * size) : RdG w size (some ⟨g, 0, none⟩) n cs.toList :=
  ⟨by simpa using hl, fun j u hu => ⟨g, 0, rfl, by rw [Nat.zero_add]; simp only [World.cell?, h]; simpa using hu⟩⟩

end Go.Proofs.Ytflgmodofemifaa

/- digests: Unit, Letter, Join, Repeat: the scale is a power, the value is below P. -/
namespace Go.Proofs.Ytflgmodofemifaa
open Go.RowKit
set_option linter.unusedVariables false
set_option linter.unusedSimpArgs false

/-- a digest as a value -/
def dgV (v s : Nat) : Value := .agg #[.int .u64 (v : Nat), .int .u64 (s : Nat)]

set_option maxRecDepth 100000 in
theorem digUnit_any (w : World) : Calls Try.prog 57 #[] w fun e w' => e = .returned (dgV 0 1) ∧ Below w.heap.size w w' := by
  go_enter Try.func57, Try.ntmps57
  go_wp2
  exact bodyPost_ret (v := dgV 0 1) (by simp [results, Try.results57, go_sem, dgV]) rfl ⟨rfl, below_alloc _ _⟩

set_option maxRecDepth 100000 in
theorem digLetter_any (b : Nat) (hb : b < 256) (w : World) : Calls Try.prog 69 #[.int .u8 (b : Nat)] w fun e w' => e = .returned (dgV (b + 1) 1103515245) ∧ Below w.heap.size w w' := by
  obtain ⟨c, hc⟩ : ∃ c, c = b + 1 := ⟨_, rfl⟩
  have hs : (b : Int) + 1 = (c : Int) := by omega
  have hwr : IntKind.u64.wrap (c : Int) = (c : Int) := by rw [IntKind.wrap_u64]; omega
  have hwb : IntKind.u64.wrap (b : Int) = (b : Int) := by rw [IntKind.wrap_u64]; omega
  rw [← hc]
  clear hc hb
  go_enter Try.func69, Try.ntmps69
  go_wp2
  exact bodyPost_ret (v := dgV c 1103515245) (by simp [results, Try.results69, go_sem, dgV]) rfl ⟨rfl, below_alloc _ _⟩

/-- a digest in two cells -/
structure DG (w : World) (b : Nat) (v s : Nat) : Prop where
  c0 : w.cell? ⟨b, 0, none⟩ = some (.int .u64 (v : Nat))
  c1 : w.cell? ⟨b, 1, none⟩ = some (.int .u64 (s : Nat))
  fz : ∀ j, w.frozen? ⟨b, j, none⟩ = false
theorem DG.below {w w' : World} {b v s} (h : DG w b v s) (hb : Below w.heap.size w w') : DG w' b v s :=
  ⟨below_cell hb h.c0, below_cell hb h.c1, fun j => (hb.frozen (p := ⟨b, j, none⟩) (World.block_lt_of_cell? w ⟨b, 0, none⟩ h.c0)).trans (h.fz j)⟩
theorem DG.set {w : World} {b v s : Nat} (h : DG w b v s) (v' s' : Nat) : DG ((w.setCell ⟨b, 0, none⟩ (.int .u64 (v' : Nat))).setCell ⟨b, 1, none⟩ (.int .u64 (s' : Nat))) b v' s' :=
  ⟨set_other (by simp) (set_same h.c0), set_same (set_other (by simp) h.c1), fun j => by rw [World.frozen?_setCell, World.frozen?_setCell]; exact h.fz j⟩
theorem DG.drew {w : World} {b v s : Nat} (h : DG w b v s) : DG w.drew b v s := ⟨h.c0, h.c1, h.fz⟩
theorem alloc_dg (w : World) (v s : Nat) (t : TypeId) : DG (w.alloc (.cells #[.int .u64 (v : Nat), .int .u64 (s : Nat)] t)) w.heap.size v s :=
  ⟨by simp, by simp, fun j => by simp⟩

set_option maxRecDepth 100000 in
set_option maxHeartbeats 1000000 in
theorem digJoin_any (v1 s1 v2 s2 : Nat) (h1 : v1 < 18446744073709551616) (h2 : s1 < 18446744073709551616) (h3 : v2 < 18446744073709551616) (h4 : s2 < 18446744073709551616) (w : World) :
    Calls Try.prog 43 #[dgV v1 s1, dgV v2 s2] w fun e w' => ∃ v s : Nat, v < PP ∧ s = s1 * s2 % PP ∧ e = .returned (dgV v s) ∧ Below w.heap.size w w' := by
  obtain ⟨w1, hw1⟩ : ∃ w1, w1 = ((w.alloc (.cells #[.int .u64 (v1 : Nat), .int .u64 (s1 : Nat)] 70)).alloc (.cells #[.int .u64 (v2 : Nat), .int .u64 (s2 : Nat)] 70)).alloc (.cells #[.int .u64 0, .int .u64 0] 70) := ⟨_, rfl⟩
  have HB := Lib.hid (show Below w.heap.size w w1 by rw [hw1]; exact ((below_alloc _ _).alloc (by simp) _).alloc (by simp; try omega) _)
  have hx : DG w1 w.heap.size v1 s1 := by rw [hw1]; exact ((alloc_dg _ _ _ _).below (below_alloc _ _)).below (below_alloc _ _)
  have hy : DG w1 (w.heap.size + 1) v2 s2 := by
    rw [hw1]
    have h := alloc_dg (w.alloc (.cells #[.int .u64 (v1 : Nat), .int .u64 (s1 : Nat)] 70)) v2 s2 70
    rw [show (w.alloc (.cells #[.int .u64 (v1 : Nat), .int .u64 (s1 : Nat)] 70)).heap.size = w.heap.size + 1 by simp] at h
    exact h.below (below_alloc _ _)
  have HW1 := Lib.hid hw1
  have H := Lib.hid (And.intro h1 (And.intro h2 (And.intro h3 h4)))
  have hz : DG w1 (w.heap.size + 1 + 1) 0 0 := by
    rw [hw1]
    have h := alloc_dg ((w.alloc (.cells #[.int .u64 (v1 : Nat), .int .u64 (s1 : Nat)] 70)).alloc (.cells #[.int .u64 (v2 : Nat), .int .u64 (s2 : Nat)] 70)) 0 0 70
    rw [show ((w.alloc (.cells #[.int .u64 (v1 : Nat), .int .u64 (s1 : Nat)] 70)).alloc (.cells #[.int .u64 (v2 : Nat), .int .u64 (s2 : Nat)] 70)).heap.size = w.heap.size + 1 + 1 by simp] at h
    exact h
  obtain ⟨x0, x1, -⟩ := hx
  obtain ⟨y0, y1, -⟩ := hy
  have HZ := Lib.hid hz
  obtain ⟨z0, z1, zf⟩ := hz
  have zf0 := zf 0
  have zf1 := zf 1
  clear zf
  clear hw1 h1 h2 h3 h4
  unfold dgV
  go_enter Try.func43, Try.ntmps43
  have hq1 : w.heap.size + 1 + 1 ≠ w.heap.size := by omega
  have hq2 : w.heap.size + 1 + 1 ≠ w.heap.size + 1 := by omega
  go_upto_region 1 with fail
  rw [← HW1.out]
  go_region_held3 (fun wx => wx.cell? ⟨w.heap.size, 0, none⟩ = some (.int .u64 (v1 : Nat)) ∧ wx.cell? ⟨w.heap.size, 1, none⟩ = some (.int .u64 (s1 : Nat)) ∧ wx.cell? ⟨w.heap.size + 1, 0, none⟩ = some (.int .u64 (v2 : Nat)) ∧ wx.cell? ⟨w.heap.size + 1, 1, none⟩ = some (.int .u64 (s2 : Nat))) (first | exact ⟨x0, x1, y0, y1⟩ | go_keep) (first
    | (go_at_call_of 60 ((v1 : Nat) : Int); refine (mulm_any v1 s2 H.out.1 H.out.2.2.2 _).mono ?_; rintro e w2 ⟨a, ha, rfl, rfl⟩; have HA := Lib.hid ha; clear ha)
    | (go_at_call 59; refine (addm_any a v2 (Nat.lt_trans (lt_PP HA.out) (by decide)) H.out.2.2.1 _).mono ?_; rintro e w2 ⟨c, hc, rfl, rfl⟩; have HC := Lib.hid hc; clear hc)
    | (go_at_call 60; refine (mulm_any s1 s2 H.out.2.1 H.out.2.2.2 _).mono ?_; rintro e w2 ⟨d, hd, rfl, rfl⟩; have HD := Lib.hid hd; clear hd))
  obtain ⟨w3, hw3⟩ : ∃ w3, w3 = ((w1.setCell ⟨w.heap.size + 1 + 1, 0, none⟩ (.int .u64 (c : Nat))).setCell ⟨w.heap.size + 1 + 1, 1, none⟩ (.int .u64 (d : Nat))).drew := ⟨_, rfl⟩
  have HZ3 : Hid (DG w3 (w.heap.size + 1 + 1) c d) := Lib.hid (by rw [hw3]; exact (HZ.out.set c d).drew)
  have HB3 : Hid (Below w.heap.size w w3) := Lib.hid (by rw [hw3]; exact ((HB.out.setCell (by simp; omega) _).setCell (by simp; omega) _).drew)
  rw [← hw3]
  obtain ⟨q0, q1, -⟩ := HZ3.out
  clear hw3 z0 z1 zf0 zf1 x0 x1 y0 y1
  go_wp2
  exact bodyPost_ret (v := dgV c d) (by simp [results, Try.results43, go_sem, dgV, q0, q1]) rfl ⟨c, d, lt_PP HC.out, HD.out, rfl, HB3.out⟩

/-- digests in two blocks, one of which is written -/
theorem DG.far {w : World} {b b' v s : Nat} (h : DG w b v s) (hne : b' ≠ b) (x y : Value) : DG ((w.setCell ⟨b', 0, none⟩ x).setCell ⟨b', 1, none⟩ y) b v s :=
  ⟨set_other (by simp [hne]) (set_other (by simp [hne]) h.c0), set_other (by simp [hne]) (set_other (by simp [hne]) h.c1), fun j => by rw [World.frozen?_setCell, World.frozen?_setCell]; exact h.fz j⟩

set_option maxRecDepth 100000 in
set_option maxHeartbeats 1000000 in
theorem digRepeat_any (v0 s0 n : Nat) (h1 : v0 < 18446744073709551616) (h2 : s0 < 18446744073709551616) (hn : n < 9223372036854775808) (w : World) :
    Calls Try.prog 42 #[dgV v0 s0, .int .i64 (n : Nat)] w fun e w' => ∃ v s : Nat, v < PP ∧ s = s0 ^ n % PP ∧ e = .returned (dgV v s) ∧ Below w.heap.size w w' := by
  obtain ⟨w1, hw1⟩ : ∃ w1, w1 = (w.alloc (.cells #[.int .u64 (v0 : Nat), .int .u64 (s0 : Nat)] 70)).alloc (.cells #[.int .u64 0, .int .u64 0] 70) := ⟨_, rfl⟩
  have HB := Lib.hid (show Below w.heap.size w w1 by rw [hw1]; exact (below_alloc _ _).alloc (by simp) _)
  have HX : Hid (DG w1 w.heap.size v0 s0) := Lib.hid (by rw [hw1]; exact (alloc_dg _ _ _ _).below (below_alloc _ _))
  have HZ : Hid (DG w1 (w.heap.size + 1) 0 0) := Lib.hid (by
    rw [hw1]
    have h := alloc_dg (w.alloc (.cells #[.int .u64 (v0 : Nat), .int .u64 (s0 : Nat)] 70)) 0 0 70
    rw [show (w.alloc (.cells #[.int .u64 (v0 : Nat), .int .u64 (s0 : Nat)] 70)).heap.size = w.heap.size + 1 by simp] at h
    exact h)
  have HS1 : Hid (w1.heap.size = w.heap.size + 1 + 1) := Lib.hid (by rw [hw1]; simp)
  have HW1 := Lib.hid hw1
  have H := Lib.hid (And.intro h1 h2)
  have HN := Lib.hid hn
  clear hw1 h1 h2 hn
  unfold dgV
  go_enter Try.func42, Try.ntmps42
  go_upto_region 1 with fail
  rw [← HW1.out]
  go_wp2_with fail
  refine (digUnit_any _).mono ?_
  rintro e w2 ⟨rfl, hb2⟩
  have HB2 := Lib.hid hb2
  clear hb2
  unfold dgV
  go_upto_region 2 with fail
  obtain ⟨w3, hw3⟩ : ∃ w3, w3 = w2.alloc (.cells #[.int .u64 0, .int .u64 1] 70) := ⟨_, rfl⟩
  obtain ⟨b5, hb5⟩ : ∃ b5, b5 = w2.heap.size := ⟨_, rfl⟩
  have HB3 : Hid (Below w1.heap.size w1 w3) := Lib.hid (by rw [hw3]; exact HB2.out.alloc HB2.out.size _)
  have HR3 : Hid (DG w3 b5 0 1) := Lib.hid (by rw [hw3, hb5]; exact alloc_dg w2 0 1 _)
  have HNE : Hid (w.heap.size + 1 < b5) := Lib.hid (by rw [hb5]; have h1 := HS1.out; have h2 := HB2.out.size; omega)
  rw [← hw3, ← hb5]
  clear hw3 hb5
  go_loopg [1] (2 * n) (fun gg nv wr => ∃ k v s rv rs : Nat, k ≤ n ∧ gg = 2 * k ∧ nv = .int .i64 (k : Nat) ∧ v < 18446744073709551616 ∧ s < 18446744073709551616 ∧ rv < PP ∧ rs < PP ∧ (rs * s ^ k) % PP = s0 ^ n % PP ∧ DG wr w.heap.size v s ∧ DG wr (w.heap.size + 1) 0 0 ∧ DG wr b5 rv rs ∧ Below w.heap.size w wr)
  case atStart => exact ⟨n, v0, s0, 0, 1, by omega, rfl, rfl, H.out.1, H.out.2, by decide, by decide, by rw [Nat.one_mul], HX.out.below HB3.out, HZ.out.below HB3.out, HR3.out, HB.out.trans (HB3.out.mono HB.out.size)⟩
  case round =>
    obtain ⟨k, v, s, rv, rs, hk, rfl, rfl, hv, hs, hrv, hrs, hinv, hx, hz, hr, hb⟩ := hrel
    have HI := Lib.hid hinv
    have HV := Lib.hid (And.intro hv hs)
    have HRV := Lib.hid (And.intro hrv hrs)
    have HK := Lib.hid hk
    have HXL := Lib.hid hx
    have HZL := Lib.hid hz
    have HRL := Lib.hid hr
    have HBL := Lib.hid hb
    clear hinv hv hs hrv hrs hk hx hz hr hb HX HZ HR3 HB3
    by_cases hk0 : k = 0
    · subst hk0
      have HF : Hid (rs = s0 ^ n % PP) := Lib.hid (by
        have h := HI.out
        rw [Nat.pow_zero, Nat.mul_one, Nat.mod_eq_of_lt HRV.out.2] at h
        exact h)
      obtain ⟨r0, r1, -⟩ := HRL.out
      obtain ⟨z0, z1, zf⟩ := HZL.out
      have zf0 := zf 0
      have zf1 := zf 1
      clear zf
      go_upto_region 7 with fail
      go_wp2
      obtain ⟨w4, hw4⟩ : ∃ w4, w4 = (wr.setCell ⟨w.heap.size + 1, 0, none⟩ (.int .u64 (rv : Nat))).setCell ⟨w.heap.size + 1, 1, none⟩ (.int .u64 (rs : Nat)) := ⟨_, rfl⟩
      have h4 : DG w4 (w.heap.size + 1) rv rs := by rw [hw4]; exact HZL.out.set rv rs
      have hb4 : Below w.heap.size w w4 := by rw [hw4]; exact (HBL.out.setCell (by simp) _).setCell (by simp) _
      rw [← hw4]
      obtain ⟨q0, q1, -⟩ := h4
      exact bodyPost_ret (v := dgV rv rs) (by simp [results, Try.results42, go_sem, dgV, q0, q1]) rfl ⟨rv, rs, HRV.out.1, HF.out, rfl, hb4⟩
    · have hk1 : 0 < k := by omega
      obtain ⟨j, hj⟩ : ∃ j, j = k / 2 := ⟨_, rfl⟩
      have hdiv : (k : Int) / 2 = (j : Int) := by omega
      have hwj : wrap64 (j : Int) = (j : Int) := by have h1 := HK.out; have h2 := HN.out; unfold wrap64; omega
      by_cases hodd : k % 2 = 1
      · have hm2 : ((k : Int) % 2 == 1) = true := by rw [beq_iff_eq]; omega
        have HJ : Hid (k = 2 * j + 1) := Lib.hid (by omega)
        clear hodd hj
        obtain ⟨r0, r1, -⟩ := HRL.out
        obtain ⟨x0, x1, -⟩ := HXL.out
        go_wp2_with fail
        refine (digJoin_any rv rs v s (Nat.lt_trans HRV.out.1 (by decide)) (Nat.lt_trans HRV.out.2 (by decide)) HV.out.1 HV.out.2 _).mono ?_
        rintro e w4 ⟨v4, s4, hv4, hs4, rfl, hb4⟩
        have H4 := Lib.hid (And.intro hv4 hs4)
        have HX4' := Lib.hid (HXL.out.below hb4)
        have HZ4' := Lib.hid (HZL.out.below hb4)
        have HR4' := Lib.hid (HRL.out.below hb4)
        have HB4' := Lib.hid (HBL.out.trans (hb4.mono HBL.out.size))
        clear hv4 hs4 hb4 x0 x1 r0 r1
        unfold dgV
        obtain ⟨r0, r1, rf⟩ := HR4'.out
        have rf0 := rf 0
        have rf1 := rf 1
        clear rf
        go_upto_region 6 with fail
        obtain ⟨w7, hw7⟩ : ∃ w7, w7 = (w4.setCell ⟨b5, 0, none⟩ (.int .u64 (v4 : Nat))).setCell ⟨b5, 1, none⟩ (.int .u64 (s4 : Nat)) := ⟨_, rfl⟩
        have HX4 : Hid (DG w7 w.heap.size v s) := Lib.hid (by rw [hw7]; exact HX4'.out.far (by have := HNE.out; omega) _ _)
        have HZ4 : Hid (DG w7 (w.heap.size + 1) 0 0) := Lib.hid (by rw [hw7]; exact HZ4'.out.far (by have := HNE.out; omega) _ _)
        have HR4 := Lib.hid (show DG w7 b5 v4 s4 by rw [hw7]; exact HR4'.out.set v4 s4)
        have HB4 : Hid (Below w.heap.size w w7) := Lib.hid (by rw [hw7]; exact (HB4'.out.setCell (by have := HNE.out; show w.heap.size ≤ b5; omega) _).setCell (by have := HNE.out; show w.heap.size ≤ b5; omega) _)
        rw [← hw7]
        clear hw7 r0 r1 rf0 rf1
        obtain ⟨x0, x1, -⟩ := HX4.out
        go_wp2_with fail
        refine (digJoin_any v s v s HV.out.1 HV.out.2 HV.out.1 HV.out.2 _).mono ?_
        rintro e w5 ⟨v5, s5, hv5, hs5, rfl, hb5'⟩
        have H5 := Lib.hid (And.intro hv5 hs5)
        have HX5 := Lib.hid (HX4.out.below hb5')
        have HZ5 := Lib.hid (HZ4.out.below hb5')
        have HR5 := Lib.hid (HR4.out.below hb5')
        have HB5 := Lib.hid (HB4.out.trans (hb5'.mono HB4.out.size))
        clear hv5 hs5 hb5' x0 x1
        unfold dgV
        obtain ⟨x0, x1, xf⟩ := HX5.out
        have xf0 := xf 0
        have xf1 := xf 1
        clear xf
        go_wp2
        obtain ⟨w6, hw6⟩ : ∃ w6, w6 = (w5.setCell ⟨w.heap.size, 0, none⟩ (.int .u64 (v5 : Nat))).setCell ⟨w.heap.size, 1, none⟩ (.int .u64 (s5 : Nat)) := ⟨_, rfl⟩
        have HX6 : Hid (DG w6 w.heap.size v5 s5) := Lib.hid (by rw [hw6]; exact HX5.out.set v5 s5)
        have HZ6 : Hid (DG w6 (w.heap.size + 1) 0 0) := Lib.hid (by rw [hw6]; exact HZ5.out.far (by omega) _ _)
        have HR6 := Lib.hid (show DG w6 b5 v4 s4 by rw [hw6]; exact HR5.out.far (by have := HNE.out; omega) _ _)
        have HB6 : Hid (Below w.heap.size w w6) := Lib.hid (by rw [hw6]; exact (HB5.out.setCell (by simp) _).setCell (by simp) _)
        rw [← hw6]
        clear hw6 x0 x1 xf0 xf1
        go_roundg (2 * j)
        case measure => have := HJ.out; omega
        case rel =>
          refine ⟨j, v5, s5, v4, s4, by have := HJ.out; have := HK.out; omega, rfl, by rw [hwj], Nat.lt_trans H5.out.1 (by decide), Nat.lt_trans (lt_PP H5.out.2) (by decide), H4.out.1, lt_PP H4.out.2, ?_, HX6.out, HZ6.out, HR6.out, HB6.out⟩
          rw [← HI.out, HJ.out, H4.out.2, H5.out.2, Nat.mul_mod, pow_sq, Nat.mod_mod, ← Nat.mul_mod, Nat.pow_succ, Nat.mul_assoc, Nat.mul_comm s]
      · have hm2 : ((k : Int) % 2 == 1) = false := by rw [beq_eq_false_iff_ne]; omega
        have HJ : Hid (k = 2 * j) := Lib.hid (by omega)
        clear hodd hj
        obtain ⟨x0, x1, -⟩ := HXL.out
        go_wp2_with fail
        refine (digJoin_any v s v s HV.out.1 HV.out.2 HV.out.1 HV.out.2 _).mono ?_
        rintro e w5 ⟨v5, s5, hv5, hs5, rfl, hb5'⟩
        have H5 := Lib.hid (And.intro hv5 hs5)
        have HX5 := Lib.hid (HXL.out.below hb5')
        have HZ5 := Lib.hid (HZL.out.below hb5')
        have HR5 := Lib.hid (HRL.out.below hb5')
        have HB5 := Lib.hid (HBL.out.trans (hb5'.mono HBL.out.size))
        clear hv5 hs5 hb5' x0 x1
        unfold dgV
        obtain ⟨x0, x1, xf⟩ := HX5.out
        have xf0 := xf 0
        have xf1 := xf 1
        clear xf
        go_wp2
        obtain ⟨w6, hw6⟩ : ∃ w6, w6 = (w5.setCell ⟨w.heap.size, 0, none⟩ (.int .u64 (v5 : Nat))).setCell ⟨w.heap.size, 1, none⟩ (.int .u64 (s5 : Nat)) := ⟨_, rfl⟩
        have HX6 : Hid (DG w6 w.heap.size v5 s5) := Lib.hid (by rw [hw6]; exact HX5.out.set v5 s5)
        have HZ6 : Hid (DG w6 (w.heap.size + 1) 0 0) := Lib.hid (by rw [hw6]; exact HZ5.out.far (by omega) _ _)
        have HR6 := Lib.hid (show DG w6 b5 rv rs by rw [hw6]; exact HR5.out.far (by have := HNE.out; omega) _ _)
        have HB6 : Hid (Below w.heap.size w w6) := Lib.hid (by rw [hw6]; exact (HB5.out.setCell (by simp) _).setCell (by simp) _)
        rw [← hw6]
        clear hw6 x0 x1 xf0 xf1
        go_roundg (2 * j)
        case measure => have := HJ.out; omega
        case rel =>
          refine ⟨j, v5, s5, rv, rs, by have := HJ.out; have := HK.out; omega, rfl, by rw [hwj], Nat.lt_trans H5.out.1 (by decide), Nat.lt_trans (lt_PP H5.out.2) (by decide), HRV.out.1, HRV.out.2, ?_, HX6.out, HZ6.out, HR6.out, HB6.out⟩
          rw [← HI.out, HJ.out, H5.out.2, Nat.mul_mod, pow_sq, ← Nat.mul_mod]

end Go.Proofs.Ytflgmodofemifaa

/- checked arithmetic of lengths, where it does not fail. -/
namespace Go.Proofs.Ytflgmodofemifaa
open Go.RowKit
set_option linter.unusedVariables false
set_option linter.unusedSimpArgs false

/-- the greatest length -/
def ML : Nat := 1152921504606846976
theorem ML_val : ML = 1152921504606846976 := rfl

set_option maxRecDepth 100000 in
theorem lenValid_any (n : Nat) (hn : n ≤ ML) (w : World) : Calls Try.prog 40 #[.int .i64 (n : Nat)] w fun e w' => e = .returned (.bool true) ∧ w' = w := by
  have h9 : decide ((n : Int) ≤ 1152921504606846976) = true := by rw [decide_eq_true_iff]; rw [ML_val] at hn; omega
  clear hn
  go_enter Try.func40, Try.ntmps40
  go_wp2
  go_ret
  exact ⟨ret_eq (by simp [h9]), rfl⟩

set_option maxRecDepth 100000 in
theorem lenAdd_any (a b : Nat) (h : a + b ≤ ML) (w : World) : Calls Try.prog 25 #[.int .i64 (a : Nat), .int .i64 (b : Nat)] w fun e w' => e = .returned (.tuple #[.int .i64 ((a + b : Nat) : Int), .nilIface]) ∧ w' = w := by
  obtain ⟨s, hs⟩ : ∃ s, s = a + b := ⟨_, rfl⟩
  rw [← hs] at h ⊢
  have H := Lib.hid h
  have HS := Lib.hid hs
  rw [ML_val] at h
  have hsum : (a : Int) + (b : Int) = (s : Int) := by omega
  have hwr : IntKind.i64.wrap (s : Int) = (s : Int) := IntWalk.i64_in _ (by omega)
  obtain ⟨d, hd⟩ : ∃ d, d = 1152921504606846976 - b := ⟨_, rfl⟩
  have hsub : 1152921504606846976 - (b : Int) = (d : Int) := by omega
  have hwd : IntKind.i64.wrap (d : Int) = (d : Int) := IntWalk.i64_in _ (by omega)
  have hdd : decide ((d : Int) < (a : Int)) = false := by rw [decide_eq_false_iff_not]; omega
  have hdn : decide (d < a) = false := by rw [decide_eq_false_iff_not]; omega
  clear hs h hd
  go_enter Try.func25, Try.ntmps25
  go_wp2_with fail
  refine (lenValid_any a (by have := H.out; have := HS.out; omega) _).mono ?_
  rintro e w1 ⟨rfl, rfl⟩
  go_wp2_with fail
  refine (lenValid_any b (by have := H.out; have := HS.out; omega) _).mono ?_
  rintro e w1 ⟨rfl, rfl⟩
  go_wp2
  go_ret2
  exact ⟨rfl, rfl⟩

set_option maxRecDepth 100000 in
theorem lenMul_any (a k : Nat) (ha : 0 < a) (hk : 0 < k) (h : a * k ≤ ML) (w : World) : Calls Try.prog 21 #[.int .i64 (a : Nat), .int .i64 (k : Nat)] w fun e w' => e = .returned (.tuple #[.int .i64 ((a * k : Nat) : Int), .nilIface]) ∧ w' = w := by
  obtain ⟨s, hs⟩ : ∃ s, s = a * k := ⟨_, rfl⟩
  rw [← hs] at h ⊢
  have HA : Hid (a ≤ ML) := Lib.hid (Nat.le_trans (Nat.le_mul_of_pos_right a hk) (hs ▸ h))
  obtain ⟨q, hq⟩ : ∃ q, q = ML / a := ⟨_, rfl⟩
  have hkq : k ≤ q := by rw [hq, Nat.le_div_iff_mul_le ha, Nat.mul_comm, ← hs]; exact h
  rw [ML_val] at h hq
  have hprod : (a : Int) * (k : Int) = (s : Int) := by rw [hs]; push_cast; rfl
  have hwr : IntKind.i64.wrap (s : Int) = (s : Int) := IntWalk.i64_in _ (by omega)
  have hquo : (1152921504606846976 : Int).tdiv (a : Int) = (q : Int) := by rw [hq, Int.tdiv_eq_ediv_of_nonneg (by decide)]; exact (Int.natCast_ediv 1152921504606846976 a).symm
  have hwq : IntKind.i64.wrap (q : Int) = (q : Int) := IntWalk.i64_in _ (by have : q ≤ 1152921504606846976 := by { rw [hq]; exact Nat.div_le_self _ _ }; omega)
  have ha0 : ((a : Int) == 0) = false := by rw [beq_eq_false_iff_ne]; omega
  have hac : ¬ (a : Int) = 0 := by omega
  have hdd : decide ((q : Int) < (k : Int)) = false := by rw [decide_eq_false_iff_not]; omega
  have hdn : decide (q < k) = false := by rw [decide_eq_false_iff_not]; omega
  clear hs h hq hkq ha
  go_enter Try.func21, Try.ntmps21
  go_wp2_with fail
  refine (lenValid_any a HA.out _).mono ?_
  rintro e w1 ⟨rfl, rfl⟩
  go_wp2
  go_ret2
  exact ⟨rfl, rfl⟩

set_option maxRecDepth 100000 in
theorem lenRange_any (f n l : Nat) (h : f + n ≤ l) (hl : l ≤ ML) (w : World) : Calls Try.prog 32 #[.int .i64 (f : Nat), .int .i64 (n : Nat), .int .i64 (l : Nat)] w fun e w' => e = .returned .nilIface ∧ w' = w := by
  have HL := Lib.hid hl
  rw [ML_val] at hl
  obtain ⟨d, hd⟩ : ∃ d, d = l - f := ⟨_, rfl⟩
  have hsub : (l : Int) - (f : Int) = (d : Int) := by omega
  have hwd : IntKind.i64.wrap (d : Int) = (d : Int) := IntWalk.i64_in _ (by omega)
  have h1 : decide (l < f) = false := by rw [decide_eq_false_iff_not]; omega
  have h2 : decide (d < n) = false := by rw [decide_eq_false_iff_not]; omega
  clear hl h hd
  go_enter Try.func32, Try.ntmps32
  go_wp2_with fail
  refine (lenValid_any l HL.out _).mono ?_
  rintro e w1 ⟨rfl, rfl⟩
  go_wp2
  go_ret
  exact ⟨rfl, rfl⟩

set_option maxRecDepth 100000 in
theorem lenClip_any (n : Nat) (h : n ≤ 1048576) (w : World) : Calls Try.prog 17 #[.int .i64 (n : Nat), .int .i64 0, .int .i64 1048576] w fun e w' => e = .returned (.int .i64 (n : Nat)) ∧ w' = w := by
  have hd : decide ((1048576 : Int) < (n : Int)) = false := by rw [decide_eq_false_iff_not]; omega
  clear h
  go_enter Try.func17, Try.ntmps17
  go_wp2
  go_ret
  exact ⟨rfl, rfl⟩

end Go.Proofs.Ytflgmodofemifaa
