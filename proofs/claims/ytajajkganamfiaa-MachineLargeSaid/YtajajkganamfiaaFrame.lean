/-
  GENERIC LAWS, over any program: what a call may have written ('Fr'), and what stands besides; append, with where the new row lies.
-/
import Derived.Test.YtajajkganamfiaaGen
import Derived.Maps.AppendAt
namespace Go.Proofs.Ytajajkganamfiaa
open Go.RowKit
set_option linter.unusedVariables false
set_option linter.unusedSimpArgs false

/-- what stood outside S is as it was -/
structure Fr (S : Nat → Prop) (w w' : World) : Prop where
  os : w'.os = w.os
  tape : w'.tape = w.tape
  output : w'.output = w.output
  size : w.heap.size ≤ w'.heap.size
  block : ∀ i, i < w.heap.size → ¬ S i → w'.heap[i]? = w.heap[i]?

theorem Fr.refl (S : Nat → Prop) (w : World) : Fr S w w := ⟨rfl, rfl, rfl, Nat.le_refl _, fun _ _ _ => rfl⟩
theorem Fr.then {S S' : Nat → Prop} {a b c : World} (h : Fr S a b) (k : Fr S' b c) (hs : ∀ i, S' i → S i ∨ a.heap.size ≤ i) : Fr S a c :=
  ⟨k.os.trans h.os, k.tape.trans h.tape, k.output.trans h.output, Nat.le_trans h.size k.size, fun i hi hn => (k.block i (Nat.lt_of_lt_of_le hi h.size) (fun h2 => by rcases hs i h2 with h3 | h3; exact hn h3; omega)).trans (h.block i hi hn)⟩
theorem Fr.trans {S : Nat → Prop} {a b c : World} (h : Fr S a b) (k : Fr S b c) : Fr S a c := h.then k fun _ h => .inl h
theorem Fr.mono {S T : Nat → Prop} {a b : World} (h : Fr S a b) (hs : ∀ i, S i → T i) : Fr T a b := ⟨h.os, h.tape, h.output, h.size, fun i hi hn => h.block i hi fun h2 => hn (hs i h2)⟩
theorem Fr.of_below {S : Nat → Prop} {a b : World} (h : Below a.heap.size a b) : Fr S a b := ⟨h.os, h.tape, h.output, h.size, fun i hi _ => h.block i hi⟩
theorem Fr.of_grown {S : Nat → Prop} {a b : World} {row : Option Nat} (h : a.grownBy b row) (hr : ∀ k, row = some k → S k) : Fr S a b :=
  ⟨h.os, h.tape, h.output, h.size, fun i hi hn => h.block i hi fun e => hn (hr i e.symm)⟩
theorem Fr.setCell {S : Nat → Prop} {a b : World} (h : Fr S a b) {p : Addr} (hp : S p.block) (u : Value) : Fr S a (b.setCell p u) :=
  h.trans ⟨rfl, rfl, rfl, by simp [World.setCell], fun k _ hn => Below.heap_setCell _ _ _ _ (fun e => hn (e ▸ hp))⟩
theorem Fr.alloc {S : Nat → Prop} {a b : World} (h : Fr S a b) (o : Obj) : Fr S a (b.alloc o) := h.trans (.of_below (below_alloc _ _))
theorem Fr.drew {S : Nat → Prop} {a b : World} (h : Fr S a b) : Fr S a b.drew := ⟨h.os, h.tape, h.output, h.size, h.block⟩
theorem Fr.cell {S : Nat → Prop} {a b : World} (h : Fr S a b) {x : Addr} {v : Value} (hc : a.cell? x = some v) (hn : ¬ S x.block) : b.cell? x = some v :=
  (World.cell?_of_block (w := a) (h.block x.block (World.block_lt_of_cell? a _ hc) hn)).trans hc
theorem Fr.frozen {S : Nat → Prop} {a b : World} (h : Fr S a b) {x : Addr} (hl : x.block < a.heap.size) (hn : ¬ S x.block) : b.frozen? x = a.frozen? x :=
  World.frozen?_of_block (w := a) (h.block x.block hl hn)
theorem Fr.below {S : Nat → Prop} {a b : World} (h : Fr S a b) {B : Nat} (hs : ∀ i, S i → B ≤ i) (hB : B ≤ a.heap.size) : Below B a b :=
  ⟨h.os, h.tape, h.output, h.size, fun i hi => h.block i (by omega) fun h2 => by have := hs i h2; omega⟩

/-- a readable list of integers, in blocks of T -/
structure RdF (w : World) (T : Nat → Prop) (k : IntKind) (a : Option Addr) (n : Nat) (l : List Int) : Prop where
  rd : Rd w k a n l
  foot : ∀ x, a = some x → 0 < n → T x.block
theorem RdF.fr {w w' : World} {S T : Nat → Prop} {k a n l} (h : RdF w T k a n l) (hf : Fr S w w') (hd : ∀ i, T i → ¬ S i) : RdF w' T k a n l :=
  ⟨⟨h.rd.len, h.rd.max, fun i hi => by
    obtain ⟨b, off, ha, hc⟩ := h.rd.cell i hi
    exact ⟨b, off, ha, hf.cell hc (hd b (h.foot _ ha (by omega)))⟩, h.rd.wf⟩, h.foot⟩
theorem RdF.below {w w' : World} {T : Nat → Prop} {k a n l} (h : RdF w T k a n l) (hb : Below w.heap.size w w') : RdF w' T k a n l := ⟨h.rd.below hb, h.foot⟩
theorem RdF.mono {w : World} {T T' : Nat → Prop} {k a n l} (h : RdF w T k a n l) (hT : ∀ i, T i → T' i) : RdF w T' k a n l := ⟨h.rd, fun x hx hn => hT _ (h.foot x hx hn)⟩
theorem RdF.lt {w : World} {T : Nat → Prop} {k a n l} (h : RdF w T k a n l) : RdF w (fun i => T i ∧ i < w.heap.size) k a n l :=
  ⟨h.rd, fun x hx hn => ⟨h.foot x hx hn, h.rd.lt x hx hn⟩⟩

theorem Row.fr {w w' : World} {S : Nat → Prop} {base e size v n xs} (h : Row w base e size v n xs) (hf : Fr S w w') (hd : ∀ g, v.ownBlock = some g → ¬ S g) : Row w' base e size v n xs := by
  refine ⟨h.1, ?_⟩
  rcases h.2 with hn | ⟨g, cap, cur, rfl, hbb, hgg, rest⟩
  · exact .inl hn
  · exact .inr ⟨g, cap, cur, rfl, hbb, by rw [hf.block g (Array.getElem?_eq_some_iff.1 hgg).1 (hd g rfl)]; exact hgg, rest⟩
theorem Row.block_lt {w : World} {base e size v n xs g} (h : Row w base e size v n xs) (hg : v.ownBlock = some g) : g < w.heap.size ∧ base ≤ g := by
  rcases h.2 with ⟨rfl, _⟩ | ⟨g', cap, cur, rfl, hbb, hgg, rest⟩
  · cases hg
  · cases hg; exact ⟨(Array.getElem?_eq_some_iff.1 hgg).1, hbb⟩

/-- append of readable cells to a row of the call's own: where the new row lies is told -/
theorem app_row_at {P : Program} {w : World} {ops : Array Oper} {rest : List Oper} {o : Oper} {a : Act} {Q : Exit → Act → World → Prop} (s x : Operand) {t e : TypeId} {z : Value} {size bytes : Nat} (E : EltG P t e z size bytes)
    (hgd : o.guard = none) (ho : o.op = .call { callee := .builtin .append, args := #[s, x], argTypes := #[t, t] })
    (base : Nat) (v : Value) (n : Nat) (xs : List Value) (hs : a.eval s = v) (hown : Row w base e size v n xs) (ad : Option Addr) (m c : Nat) (news : List Value) (hx : a.eval x = .slice ad m c) (hr : RdG w size ad m news) (h1 : ∀ u ∈ news, u.oneCell' = true)
    (hlen : (n + m) * bytes ≤ 140737488355328) (hpos : 0 < bytes) (hbase : base ≤ w.heap.size)
    (h : ∀ a' c' w', Row w' base e size (.slice a' (n + m) c') (n + m) (xs ++ news) → w.grownBy w' v.ownBlock → ((Value.slice a' (n + m) c').ownBlock = v.ownBlock ∨ (Value.slice a' (n + m) c').ownBlock = some w.heap.size) → wpList P ops Q rest (a.put o.dst (.slice a' (n + m) c')) w') : wpList P ops Q (o :: rest) a w := by
  obtain ⟨i, hi, hz, hsz, hby⟩ := E.hi
  have hb2 : (n + m) ≤ 140737488355328 := Nat.le_trans (Nat.le_mul_of_pos_right _ hpos) hlen
  cases ad with
  | some ad =>
    refine wpList_append_own_at w hgd s x t ho base e i z size bytes E.ht hi hz hsz hby E.hz E.h0 v n xs hs hown ad m c news hx hr.len hr.news h1 (by unfold maxLen; omega) hlen hbase ?_
    intro v' w' ho' hg' _ hat
    obtain ⟨a', c', rfl⟩ := Row.form ho'
    exact h a' c' w' ho' hg' hat
  | none =>
    have hl0 : news = [] := by
      cases news with
      | nil => rfl
      | cons u r => obtain ⟨b, off, ha, _⟩ := hr.cell 0 u rfl; cases ha
    subst hl0
    have h0 : m = 0 := by
      have := hr.len
      have h3 := E.h0
      simp only [List.length_nil] at this
      rcases Nat.mul_eq_zero.1 this.symm with h4 | h4 <;> omega
    subst h0
    refine wpList_plain hgd fun K hK' => ?_
    have hrun : (Builtin.append_ #[t, t] o.type #[v, .slice none 0 c]).run P w = .ok v w := by
      rcases hown.2 with ⟨rfl, h0⟩ | ⟨g, cap, cur, rfl, _, _, hnc, _⟩
      · simp [Builtin.append_, run_underlying E.ht, sizeOf, typeInfo, hi, Builtin.lenOf, Builtin.firstCells]
      · simp [Builtin.append_, run_underlying E.ht, sizeOf, typeInfo, hi, Builtin.lenOf, Builtin.firstCells, hnc, storeCells]
    unfold Oper.wp
    simp [execOp, ho, resolve, invoke, builtin, hs, hx, hrun, Result.andThen]
    obtain ⟨a', c', rfl⟩ := Row.form hown
    refine hK' _ _ ?_
    have := h a' c' w (by simpa using hown) (World.grownBy.refl _ _) (.inl rfl)
    simpa using this

/-- the same at a step of a region that draws its order -/
theorem step_app_row_at {P : Program} {w : World} {ops : Array Oper} {o : Oper} {a : Act} {K : Act → World → Prop} {Q : Exit → Act → World → Prop} {G : Prop} (s x : Operand) {t e : TypeId} {z : Value} {size bytes : Nat} (E : EltG P t e z size bytes)
    (hgd : o.guard = none) (ho : o.op = .call { callee := .builtin .append, args := #[s, x], argTypes := #[t, t] })
    (base : Nat) (v : Value) (n : Nat) (xs : List Value) (hs : a.eval s = v) (hown : Row w base e size v n xs) (ad : Option Addr) (m c : Nat) (news : List Value) (hx : a.eval x = .slice ad m c) (hr : RdG w size ad m news) (h1 : ∀ u ∈ news, u.oneCell' = true)
    (hlen : (n + m) * bytes ≤ 140737488355328) (hpos : 0 < bytes) (hbase : base ≤ w.heap.size)
    (h : ∀ a' c' w', Row w' base e size (.slice a' (n + m) c') (n + m) (xs ++ news) → w.grownBy w' v.ownBlock → ((Value.slice a' (n + m) c').ownBlock = v.ownBlock ∨ (Value.slice a' (n + m) c').ownBlock = some w.heap.size) → K (a.put o.dst (.slice a' (n + m) c')) w') : if Region.wanted o (yielded ops a.tmps) = true then Oper.wp P o a w K Q else G := by
  have hw : Region.wanted o (yielded ops a.tmps) = true := by simp [Region.wanted, hgd]
  rw [if_pos hw]
  obtain ⟨i, hi, hz, hsz, hby⟩ := E.hi
  have hb2 : (n + m) ≤ 140737488355328 := Nat.le_trans (Nat.le_mul_of_pos_right _ hpos) hlen
  cases ad with
  | some ad =>
    obtain ⟨v', w', hrun, ho', hg', _, hat⟩ := run_append_own_at (P := P) w base t o.type e i z size bytes E.ht hi hz hsz hby E.hz E.h0 v n xs hown ad m c news hr.len hr.news h1 (by unfold maxLen; omega) hlen hbase
    obtain ⟨a', c', rfl⟩ := Row.form ho'
    unfold Oper.wp execOp
    simp only [ho, resolve, invoke, builtin, Sem.run_bind, Sem.run_pure, Result.andThen_ok, List.map_toArray, List.map_cons, List.map_nil, hs, hx, hrun]
    exact h a' c' w' ho' hg' hat
  | none =>
    have hl0 : news = [] := by
      cases news with
      | nil => rfl
      | cons u r => obtain ⟨b, off, ha, _⟩ := hr.cell 0 u rfl; cases ha
    subst hl0
    have h0 : m = 0 := by
      have := hr.len
      have h3 := E.h0
      simp only [List.length_nil] at this
      rcases Nat.mul_eq_zero.1 this.symm with h4 | h4 <;> omega
    subst h0
    have hrun : (Builtin.append_ #[t, t] o.type #[v, .slice none 0 c]).run P w = .ok v w := by
      rcases hown.2 with ⟨rfl, h0⟩ | ⟨g, cap, cur, rfl, _, _, hnc, _⟩
      · simp [Builtin.append_, run_underlying E.ht, sizeOf, typeInfo, hi, Builtin.lenOf, Builtin.firstCells]
      · simp [Builtin.append_, run_underlying E.ht, sizeOf, typeInfo, hi, Builtin.lenOf, Builtin.firstCells, hnc, storeCells]
    unfold Oper.wp execOp
    simp only [ho, resolve, invoke, builtin, Sem.run_bind, Sem.run_pure, Result.andThen_ok, List.map_toArray, List.map_cons, List.map_nil, hs, hx, hrun]
    obtain ⟨a', c', rfl⟩ := Row.form hown
    have := h a' c' w (by simpa using hown) (World.grownBy.refl _ _) (.inl rfl)
    simpa [Oper.upon] using this

theorem set_same {w : World} {a : Addr} {u v : Value} (h : w.cell? a = some u) : (w.setCell a v).cell? a = some v := World.cell?_setCell_same' w a v (by rw [h]; rfl)
theorem set_other {w : World} {a b : Addr} {u v : Value} (hne : a ≠ b) (h : w.cell? b = some u) : (w.setCell a v).cell? b = some u := by
  have := World.cell?_setCell_other (w := w) (a := a) (b := b) (v := v) hne
  rw [this]; exact h
theorem RdG.drew {w : World} {size a n xs} (h : RdG w size a n xs) : RdG w.drew size a n xs := ⟨h.len, h.cell⟩
theorem Row.drew {w : World} {base e size v n xs} (h : Row w base e size v n xs) : Row w.drew base e size v n xs := h
theorem Row.alloc {w : World} {base e size v n xs} (h : Row w base e size v n xs) (o : Obj) : Row (w.alloc o) base e size v n xs := World.ownsRow.alloc h o

theorem heap_new_at {w : World} {o : Obj} {k : Nat} (hk : k = w.heap.size) : (w.alloc o).heap[k]? = some o := by subst hk; exact heap_alloc_new w o
theorem heap_new_at2 {w : World} {o o2 : Obj} {k : Nat} (hk : k = w.heap.size) : ((w.alloc o).alloc o2).heap[k]? = some o := (Below.heap_alloc _ _ _ (by subst hk; simp)).trans (heap_new_at hk)

theorem row_block {w : World} {g : Nat} {e : TypeId} {size : Nat} (h : w.heap[g]? = some (.cells #[] e (0, 0))) : Row w 0 e size (.slice (some ⟨g, 0, none⟩) 0 0) 0 [] :=
  ⟨by simp, .inr ⟨g, 0, #[], rfl, Nat.zero_le _, h, Nat.le_refl _, Nat.zero_le _, by simp, by simp⟩⟩
theorem rdG_block {w : World} {g : Nat} {e : TypeId} {size n : Nat} {cs : Array Value} (h : w.heap[g]? = some (.cells cs e (0, 0))) (hl : cs.size = n * size) : RdG w size (some ⟨g, 0, none⟩) n cs.toList :=
  ⟨by simpa using hl, fun j u hu => ⟨g, 0, rfl, by rw [Nat.zero_add]; simp only [World.cell?, h]; simpa using hu⟩⟩

end Go.Proofs.Ytajajkganamfiaa
