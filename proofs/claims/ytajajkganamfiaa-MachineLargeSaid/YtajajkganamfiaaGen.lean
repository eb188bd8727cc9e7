/-
  GENERIC LAWS, over any program: rows of whatever cells that can be read or are the call's own; append, make, store.
-/
import Derived.Test.YtajajkganamfiaaBase
namespace Go.Proofs.Ytajajkganamfiaa
open Go.RowKit
set_option linter.unusedVariables false
set_option linter.unusedSimpArgs false

/-- the cells of the n elements (size cells each) of a slice value with address a -/
structure RdG (w : World) (size : Nat) (a : Option Addr) (n : Nat) (xs : List Value) : Prop where
  len : xs.length = n * size
  cell : ∀ j u, xs[j]? = some u → ∃ b off, a = some ⟨b, off, none⟩ ∧ w.cell? ⟨b, off + j, none⟩ = some u

theorem RdG.below {w w' : World} {size a n xs} (h : RdG w size a n xs) (hb : Below w.heap.size w w') : RdG w' size a n xs :=
  ⟨h.len, fun j u hu => by
    obtain ⟨b, off, ha, hc⟩ := h.cell j u hu
    exact ⟨b, off, ha, below_cell hb hc⟩⟩

theorem RdG.news {w : World} {size a n xs} (h : RdG w size (some a) n xs) : ∀ j u, xs[j]? = some u → w.cell? (a.add j) = some u := by
  intro j u hu
  obtain ⟨b, off, ha, hc⟩ := h.cell j u hu
  cases ha
  rw [Addr.add_lit]; exact hc

/-- a new block of listed cells -/
theorem RdG.lits (w : World) (size : Nat) (e : TypeId) (n : Nat) (xs : List Value) (hl : xs.length = n * size) : RdG (w.alloc (.cells xs.toArray e)) size (some ⟨w.heap.size, 0, none⟩) n xs :=
  ⟨hl, fun j u hu => ⟨_, _, rfl, by rw [Nat.zero_add, World.cell?_alloc_new]; simpa using hu⟩⟩

/-- facts on a slice's type and its element's -/
structure EltG (P : Program) (t e : TypeId) (z : Value) (size bytes : Nat) : Prop where
  ht : P.underlying t = some (.slice e)
  hi : ∃ i, P.info? e = some i ∧ i.zero = some z ∧ i.size = size ∧ i.bytes = bytes
  hz : z.cells.size = size
  h0 : 0 < size

abbrev Row (w : World) (base : Nat) (e : TypeId) (size : Nat) (v : Value) (n : Nat) (xs : List Value) : Prop := w.ownsRow base e size v n xs

theorem Row.form {w : World} {base e size v n xs} (h : Row w base e size v n xs) : ∃ a c, v = .slice a n c := by
  rcases h.2 with ⟨rfl, h0⟩ | ⟨g, cap, cur, rfl, _⟩
  · exact ⟨none, 0, by rw [h0]⟩
  · exact ⟨_, _, rfl⟩

theorem Row.below {w w' : World} {base e size v n xs} (h : Row w base e size v n xs) (hb : Below w.heap.size w w') : Row w' base e size v n xs := by
  refine ⟨h.1, ?_⟩
  rcases h.2 with hn | ⟨g, cap, cur, rfl, hbb, hgg, rest⟩
  · exact .inl hn
  · exact .inr ⟨g, cap, cur, rfl, hbb, by rw [hb.block g (Array.getElem?_eq_some_iff.1 hgg).1]; exact hgg, rest⟩

theorem Row.mono {w : World} {base base' e size v n xs} (h : Row w base e size v n xs) (hb : base' ≤ base) : Row w base' e size v n xs := by
  refine ⟨h.1, ?_⟩
  rcases h.2 with hn | ⟨g, cap, cur, rfl, hbb, r⟩
  · exact .inl hn
  · exact .inr ⟨g, cap, cur, rfl, by omega, r⟩

theorem Row.cap {w : World} {base e size a n c m xs} (h : Row w base e size (.slice a n c) m xs) : n ≤ c := by
  rcases h.2 with ⟨hv, hn⟩ | ⟨g, cap, cur, hv, _, _, hnc, _⟩
  · cases hv; omega
  · cases hv; exact hnc

theorem Row.rdG {w : World} {base e size a n c xs} (h : Row w base e size (.slice a n c) n xs) : RdG w size a n xs := by
  refine ⟨h.1, fun j u hu => ?_⟩
  have hj : j < n * size := by rw [← h.1]; exact (List.getElem?_eq_some_iff.1 hu).1
  rcases h.2 with ⟨hv, hn⟩ | ⟨g, cap, cur, hv, _⟩
  · subst hn; omega
  · cases hv
    refine ⟨g, 0, rfl, ?_⟩
    rw [Nat.zero_add, World.ownsRow.cellAt h j hj, hu]

/-- two rows of different element types lie in different blocks -/
theorem Row.apart {w : World} {base base' e e' size size' v v' n n' xs xs'} (h : Row w base e size v n xs) (h' : Row w base' e' size' v' n' xs') (hne : e ≠ e') : v.ownBlock = none ∨ v.ownBlock ≠ v'.ownBlock := by
  rcases h.2 with ⟨rfl, _⟩ | ⟨g, cap, cur, rfl, _, hg, _⟩
  · exact .inl rfl
  · refine .inr ?_
    rcases h'.2 with ⟨rfl, _⟩ | ⟨g', cap', cur', rfl, _, hg', _⟩
    · simp [Value.ownBlock]
    · intro hh
      have hgg : g = g' := by simpa [Value.ownBlock] using hh
      subst hgg
      rw [hg] at hg'
      simp only [Option.some.injEq, Obj.cells.injEq] at hg'
      exact hne hg'.2.1

/-- a row stays while another one, of another element type, is written -/
theorem Row.keep {w w' : World} {base base' e e' size size' v v' n n' xs xs'} (h : Row w base e size v n xs) (h' : Row w base' e' size' v' n' xs') (hne : e ≠ e') (hg : w.grownBy w' v'.ownBlock) : Row w' base e size v n xs :=
  World.ownsRow.kept h hg (h.apart h' hne)

theorem Row.grown {w w' : World} {base e size v n xs} (ho : Row w base e size v n xs) (hg : w.grownBy w' v.ownBlock) (hb : base ≤ w.heap.size) : Below base w w' :=
  (Below.refl _ _).grown hg hb (fun x hx => (World.ownsRow.lt ho x hx).1)

/-- append of readable cells to a row of the call's own -/
theorem app_row {P : Program} {w : World} {ops : Array Oper} {rest : List Oper} {o : Oper} {a : Act} {Q : Exit → Act → World → Prop} (s x : Operand) {t e : TypeId} {z : Value} {size bytes : Nat} (E : EltG P t e z size bytes)
    (hgd : o.guard = none) (ho : o.op = .call { callee := .builtin .append, args := #[s, x], argTypes := #[t, t] })
    (base : Nat) (v : Value) (n : Nat) (xs : List Value) (hs : a.eval s = v) (hown : Row w base e size v n xs) (ad : Option Addr) (m c : Nat) (news : List Value) (hx : a.eval x = .slice ad m c) (hr : RdG w size ad m news) (h1 : ∀ u ∈ news, u.oneCell' = true)
    (hlen : (n + m) * bytes ≤ 140737488355328) (hpos : 0 < bytes) (hbase : base ≤ w.heap.size)
    (h : ∀ a' c' w', Row w' base e size (.slice a' (n + m) c') (n + m) (xs ++ news) → w.grownBy w' v.ownBlock → wpList P ops Q rest (a.put o.dst (.slice a' (n + m) c')) w') : wpList P ops Q (o :: rest) a w := by
  obtain ⟨i, hi, hz, hsz, hby⟩ := E.hi
  have hb2 : (n + m) ≤ 140737488355328 := Nat.le_trans (Nat.le_mul_of_pos_right _ hpos) hlen
  cases ad with
  | some ad =>
    refine wpList_append_own w hgd s x t ho base e i z size bytes E.ht hi hz hsz hby E.hz E.h0 v n xs hs hown ad m c news hx hr.len hr.news h1 (by unfold maxLen; omega) hlen hbase ?_
    intro v' w' ho' hg' _
    obtain ⟨a', c', rfl⟩ := Row.form ho'
    exact h a' c' w' ho' hg'
  | none =>
    have hl0 : news = [] := by
      cases news with
      | nil => rfl
      | cons u r => obtain ⟨b, off, ha, _⟩ := hr.cell 0 u rfl; cases ha
    subst hl0
    have h0 : m = 0 := by
      have := hr.len
      have h3 := E.h0
      simp only [List.length_nil] at this
      rcases Nat.mul_eq_zero.1 this.symm with h4 | h4 <;> omega
    subst h0
    refine wpList_plain hgd fun K hK' => ?_
    have hrun : (Builtin.append_ #[t, t] o.type #[v, .slice none 0 c]).run P w = .ok v w := by
      rcases hown.2 with ⟨rfl, h0⟩ | ⟨g, cap, cur, rfl, _, _, hnc, _⟩
      · simp [Builtin.append_, run_underlying E.ht, sizeOf, typeInfo, hi, Builtin.lenOf, Builtin.firstCells]
      · simp [Builtin.append_, run_underlying E.ht, sizeOf, typeInfo, hi, Builtin.lenOf, Builtin.firstCells, hnc, storeCells]
    unfold Oper.wp
    simp [execOp, ho, resolve, invoke, builtin, hs, hx, hrun, Result.andThen]
    obtain ⟨a', c', rfl⟩ := Row.form hown
    refine hK' _ _ ?_
    have := h a' c' w (by simpa using hown) (World.grownBy.refl _ _)
    simpa using this

/-- make([]T, n) -/
theorem make_row {P : Program} {w : World} {ops : Array Oper} {rest : List Oper} {o : Oper} {a : Act} {Q : Exit → Act → World → Prop} {t e : TypeId} {z : Value} {size bytes : Nat} (E : EltG P t e z size bytes)
    (hgd : o.guard = none) (s x : Operand) (ho : o.op = Op.makeSlice t s x) (base : Nat) (kl kc : IntKind) (L C : Int) (n : Nat) (hs : a.eval s = .int kl L) (hx : a.eval x = .int kc C) (hL : L = (n : Int)) (hC : C = (n : Int))
    (hb : n * bytes ≤ 281474976710656) (hn : n ≤ 9223372036854775807) (hbase : base ≤ w.heap.size)
    (h : ∀ w', Row w' base e size (.slice (some ⟨w.heap.size, 0, none⟩) n n) n (madeCells z.cells (n * size)).toList → w.grownBy w' none → wpList P ops Q rest (a.put o.dst (.slice (some ⟨w.heap.size, 0, none⟩) n n)) w') : wpList P ops Q (o :: rest) a w := by
  obtain ⟨i, hi, hz, hsz, hby⟩ := E.hi
  exact wpList_make_full w hgd s x t ho base e i z size E.ht hi hz hsz kl kc L C n hs hx hL hC (by rw [hby, Nat.mul_comm]; exact hb) (by unfold maxLen; omega) hbase h

theorem splice_take {α : Type} (L : List α) (m j : Nat) (news : List α) (h : j + news.length ≤ m) (hm : m ≤ L.length) :
    (L.take j ++ news ++ L.drop (j + news.length)).take m = (L.take m).take j ++ news ++ (L.take m).drop (j + news.length) := by
  have e1 : (L.take j ++ news).length = j + news.length := by rw [List.length_append, List.length_take]; omega
  rw [List.take_append, List.take_of_length_le (by omega), e1, List.drop_take, List.take_take, Nat.min_eq_left (by omega)]

/-- a store into a row of the call's own -/
theorem store_row {P : Program} {w : World} {ops : Array Oper} {rest : List Oper} {o : Oper} {a : Act} {Q : Exit → Act → World → Prop} (hgd : o.guard = none) (ty : TypeId) (x y : Operand) (ho : o.op = .store ty x y)
    (g j : Nat) (hx : a.eval x = .pointer (some ⟨g, j, none⟩)) (u : Value) (hy : a.eval y = u) (news : List Value) (hn : u.cells.toList = news) (hi : (P.info? ty).map (·.size) = some news.length) (h1 : ∀ v ∈ news, v.oneCell' = true)
    (base : Nat) (e : TypeId) (size n cap : Nat) (xs : List Value) (hown : Row w base e size (.slice (some ⟨g, 0, none⟩) n cap) n xs) (hj : j + news.length ≤ xs.length)
    (h : ∀ w', Row w' base e size (.slice (some ⟨g, 0, none⟩) n cap) n (xs.take j ++ news ++ xs.drop (j + news.length)) → w.grownBy w' (some g) → wpList P ops Q rest (a.put o.dst undef) w') : wpList P ops Q (o :: rest) a w := by
  refine wpList_plain hgd fun K hK => ?_
  rcases hown.2 with ⟨hv, _⟩ | ⟨g', cap', cur, hv, hbg, hg, hnc, hcm, hcs, htake⟩
  · cases hv
  · cases hv
    have hxl := hown.1
    have hle : n * size ≤ cap * size := Nat.mul_le_mul_right _ hnc
    have hst := run_storeCells_at P g j e news 0 cur w hg (by omega) h1
    simp only [Nat.add_zero] at hst
    have hrow : (w.setRow g (cur.toList.take j ++ news ++ cur.toList.drop (j + news.length)).toArray).heap[g]? = _ := setRow_heap w g cur _ e _ hg
    refine (?_ : Oper.wp P o a w K Q)
    cases hq : P.info? ty with
    | none => simp [hq] at hi
    | some i =>
      have hs : i.size = news.length := by simpa [hq] using hi
      have hc : u.cells = news.toArray := by rw [← hn]
      unfold Oper.wp execOp
      have hrun : (storeVar ty ⟨g, j, none⟩ u).run P w = .ok () (w.setRow g (cur.toList.take j ++ news ++ cur.toList.drop (j + news.length)).toArray) := by
        simp [storeVar, sizeOf, typeInfo, hq, hc, hs, hst]
      simp only [ho, hx, hy, Instr.storeAt, Instr.sureAddr, Sem.run_bind, Sem.run_pure, Result.andThen_ok, hrun]
      refine hK _ _ (h _ ⟨by simp; omega, .inr ⟨g, cap, _, rfl, hbg, hrow, hnc, hcm, by simp; omega, ?_⟩⟩ ⟨rfl, rfl, rfl, by simp, fun k _ hk => setRow_other w g k _ (fun e => hk (by simp [e]))⟩)
      subst htake
      exact splice_take cur.toList (n * size) j news (by omega) (by rw [Array.length_toList]; omega)

end Go.Proofs.Ytajajkganamfiaa
