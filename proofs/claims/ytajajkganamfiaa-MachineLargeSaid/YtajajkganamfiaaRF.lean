/-
  GENERIC LAWS, over any program: a family of rows of the call's own (each of one-cell elements), no two in one block, none in the blocks N; append, store, make, copy at the operation.
-/
import Derived.Test.YtajajkganamfiaaFrame
import Derived.Laws.CopyOwn
import Derived.Laws.ResultCell
import Derived.Deep.MidRow
namespace Go.Proofs.Ytajajkganamfiaa
open Go.RowKit
set_option linter.unusedVariables false
set_option linter.unusedSimpArgs false

/-- a row: its elements' type, the slice value, the elements -/
abbrev Rw := TypeId × Value × List Value

abbrev AtR (l : List (Option Rw)) (i : Nat) (e : TypeId) (v : Value) (xs : List Value) : Prop := l[i]? = some (some (e, v, xs))

structure RF (B : Nat) (N : Nat → Prop) (w : World) (l : List (Option Rw)) : Prop where
  own : ∀ i e v xs, AtR l i e v xs → Row w B e 1 v xs.length xs
  ne : ∀ i j e v xs e' v' xs' g, i ≠ j → AtR l i e v xs → l[j]? = some (some (e', v', xs')) → v.ownBlock = some g → v'.ownBlock ≠ some g
  av : ∀ i e v xs g, AtR l i e v xs → v.ownBlock = some g → ¬ N g
  nl : ∀ b, N b → b < w.heap.size
  bw : B ≤ w.heap.size

theorem RF.lt {B N w l} (h : RF B N w l) {i e v xs g} (hi : AtR l i e v xs) (hg : v.ownBlock = some g) : g < w.heap.size ∧ B ≤ g := Row.block_lt (h.own i e v xs hi) hg

theorem RF.fr {B N w w' l} {S : Nat → Prop} (h : RF B N w l) (hf : Fr S w w') (hS : ∀ i e v xs g, AtR l i e v xs → v.ownBlock = some g → ¬ S g) : RF B N w' l :=
  ⟨fun i e v xs hi => Row.fr (h.own i e v xs hi) hf (fun g hg => hS i e v xs g hi hg), h.ne, h.av, fun b hb => Nat.lt_of_lt_of_le (h.nl b hb) hf.size, Nat.le_trans h.bw hf.size⟩
theorem RF.below {B N w w' l} (h : RF B N w l) (hb : Below w.heap.size w w') : RF B N w' l := h.fr (S := fun _ => False) (.of_below hb) (fun _ _ _ _ _ _ _ h => h)
/-- what is written lies in N -/
theorem RF.cells {B N w w' l} (h : RF B N w l) (hf : Fr N w w') : RF B N w' l := h.fr hf h.av

/-- a family of one row -/
theorem RF.one {B : Nat} {N : Nat → Prop} {w : World} {e v xs} (hr : Row w B e 1 v xs.length xs) (hav : ∀ g, v.ownBlock = some g → ¬ N g) (nl : ∀ b, N b → b < w.heap.size) (bw : B ≤ w.heap.size) : RF B N w [some (e, v, xs)] := by
  have get : ∀ {i e2 v2 xs2}, AtR [some (e, v, xs)] i e2 v2 xs2 → i = 0 ∧ e2 = e ∧ v2 = v ∧ xs2 = xs := by
    intro i e2 v2 xs2 hi
    rcases i with _ | i
    · have h := Option.some.inj (Option.some.inj hi)
      simp only [Prod.mk.injEq] at h
      exact ⟨rfl, h.1.symm, h.2.1.symm, h.2.2.symm⟩
    · cases hi
  refine ⟨fun i e2 v2 xs2 hi => ?_, fun i j e2 v2 xs2 e3 v3 xs3 g hne hi hj => ?_, fun i e2 v2 xs2 g hi hg => ?_, nl, bw⟩
  · obtain ⟨_, rfl, rfl, rfl⟩ := get hi; exact hr
  · have h1 := (get hi).1; have h2 := (get hj).1; omega
  · obtain ⟨_, rfl, rfl, rfl⟩ := get hi; exact hav g hg

/-- one block more of other things -/
theorem RF.addN {B N w l} (h : RF B N w l) (o : Obj) : RF B (fun b => N b ∨ b = w.heap.size) (w.alloc o) l := by
  have h' := h.below (below_alloc w o)
  refine ⟨h'.own, h.ne, fun i e v xs g hi hg hc => ?_, fun b hb => ?_, h'.bw⟩
  · rcases hc with hc | hc
    · exact h.av i e v xs g hi hg hc
    · have := (h.lt hi hg).1; omega
  · rcases hb with hb | hb
    · exact h'.nl b hb
    · rw [hb]; simp

theorem set_get {α : Type} {l : List α} {i j : Nat} {x y : α} (h : (l.set i x)[j]? = some y) : (j = i ∧ i < l.length ∧ y = x) ∨ (j ≠ i ∧ l[j]? = some y) := by
  rw [List.getElem?_set] at h
  by_cases e : i = j
  · rw [if_pos e] at h
    split at h
    · exact .inl ⟨e.symm, by omega, (Option.some.inj h).symm⟩
    · cases h
  · rw [if_neg e] at h
    exact .inr ⟨fun h => e h.symm, h⟩

/-- one row is another now: what else has been written lies in its old block or is new -/
theorem RF.turn {B N w w' l} (h : RF B N w l) {i e v xs} (hi : AtR l i e v xs) {v' xs'} (hr : Row w' B e 1 v' xs'.length xs') (hg : w.grownBy w' v.ownBlock) (hat : v'.ownBlock = v.ownBlock ∨ v'.ownBlock = some w.heap.size ∨ v'.ownBlock = none) : RF B N w' (l.set i (some (e, v', xs'))) := by
  have hf : Fr (fun g => v.ownBlock = some g) w w' := Fr.of_grown hg (fun k hk => hk)
  have hold : ∀ {j e2 v2 xs2}, j ≠ i → AtR l j e2 v2 xs2 → Row w' B e2 1 v2 xs2.length xs2 := fun {j e2 v2 xs2} hne hj =>
    Row.fr (h.own j e2 v2 xs2 hj) hf (fun g hg2 hg3 => h.ne j i _ _ _ _ _ _ g hne hj hi hg2 hg3)
  have hnb : ∀ {j e2 v2 xs2 g}, j ≠ i → AtR l j e2 v2 xs2 → v2.ownBlock = some g → v'.ownBlock ≠ some g := by
    intro j e2 v2 xs2 g hne hj hg2 hc
    rcases hat with e | e | e
    · rw [e] at hc; exact h.ne j i _ _ _ _ _ _ g hne hj hi hg2 hc
    · rw [e] at hc; cases hc
      exact absurd (h.lt hj hg2).1 (Nat.lt_irrefl _)
    · rw [e] at hc; cases hc
  refine ⟨fun j e2 v2 xs2 hj => ?_, fun j m e2 v2 xs2 e3 v3 xs3 g hne hj hm hg2 => ?_, fun j e2 v2 xs2 g hj hg2 => ?_, fun b hb => Nat.lt_of_lt_of_le (h.nl b hb) hf.size, Nat.le_trans h.bw hf.size⟩
  · rcases set_get hj with ⟨_, _, e4⟩ | ⟨h1, h2⟩
    · cases e4; exact hr
    · exact hold h1 h2
  · rcases set_get hj with ⟨a1, _, e4⟩ | ⟨h1, h2⟩ <;> rcases set_get hm with ⟨a2, _, e5⟩ | ⟨h3, h4⟩
    · omega
    · cases e4
      intro hc
      exact hnb h3 h4 hc hg2
    · cases e5; exact hnb h1 h2 hg2
    · exact h.ne j m _ _ _ _ _ _ g hne h2 h4 hg2
  · rcases set_get hj with ⟨_, _, e4⟩ | ⟨h1, h2⟩
    · cases e4
      rcases hat with e | e | e
      · rw [e] at hg2; exact h.av i _ _ _ g hi hg2
      · rw [e] at hg2; cases hg2
        intro hc; exact Nat.lt_irrefl _ (h.nl _ hc)
      · rw [e] at hg2; cases hg2
    · exact h.av j _ _ _ g h2 hg2

/-- a new row -/
theorem RF.new {B N w w' l} (h : RF B N w l) {e v xs} (hr : Row w' B e 1 v xs.length xs) (hb : Below w.heap.size w w') (hat : v.ownBlock = some w.heap.size ∨ v.ownBlock = none) : RF B N w' (l ++ [some (e, v, xs)]) := by
  have h' := h.below hb
  have get : ∀ {j x}, (l ++ [some (e, v, xs)])[j]? = some x → (l[j]? = some x) ∨ (j = l.length ∧ x = some (e, v, xs)) := by
    intro j x hj
    rw [List.getElem?_append] at hj
    split at hj
    · exact .inl hj
    · rename_i hlt
      have : j - l.length = 0 := by
        rcases Nat.eq_zero_or_pos (j - l.length) with z | z
        · exact z
        · rw [List.getElem?_eq_none (by simp; omega)] at hj; cases hj
      rw [this] at hj
      exact .inr ⟨by omega, by simpa using hj.symm⟩
  have hnb : ∀ {j e2 v2 xs2 g}, AtR l j e2 v2 xs2 → v2.ownBlock = some g → v.ownBlock ≠ some g := by
    intro j e2 v2 xs2 g hj hg2 hc
    rcases hat with e | e
    · rw [e] at hc; cases hc; exact Nat.lt_irrefl _ (h.lt hj hg2).1
    · rw [e] at hc; cases hc
  refine ⟨fun j e2 v2 xs2 hj => ?_, fun j m e2 v2 xs2 e3 v3 xs3 g hne hj hm hg2 => ?_, fun j e2 v2 xs2 g hj hg2 => ?_, h'.nl, h'.bw⟩
  · rcases get hj with h1 | ⟨_, e4⟩
    · exact h'.own j _ _ _ h1
    · cases e4; exact hr
  · rcases get hj with h1 | ⟨a1, e4⟩ <;> rcases get hm with h2 | ⟨a2, e5⟩
    · exact h.ne j m _ _ _ _ _ _ g hne h1 h2 hg2
    · cases e5; exact hnb h1 hg2
    · cases e4; intro hc; exact hnb h2 hc hg2
    · omega
  · rcases get hj with h1 | ⟨_, e4⟩
    · exact h.av j _ _ _ g h1 hg2
    · cases e4
      rcases hat with e | e
      · rw [e] at hg2; cases hg2; intro hc; exact Nat.lt_irrefl _ (h.nl _ hc)
      · rw [e] at hg2; cases hg2

theorem RF.grown {B N w w' l} (h : RF B N w l) {i e v xs} (hi : AtR l i e v xs) (hg : w.grownBy w' v.ownBlock) : Below B w w' :=
  (Below.refl _ _).grown hg h.bw (fun x hx => (h.lt hi hx).2)
/-- cells of blocks of N stay while a row is written -/
theorem RF.cellN {B N w w' l} (h : RF B N w l) {i e v xs} (hi : AtR l i e v xs) (hg : w.grownBy w' v.ownBlock) {b j : Nat} {u : Value} (hb : N b) (hc : w.cell? ⟨b, j, none⟩ = some u) : w'.cell? ⟨b, j, none⟩ = some u :=
  hg.cell hc (fun e => h.av i _ _ _ b hi e.symm hb)
theorem RF.frN {B N w w' l} (h : RF B N w l) {i e v xs} (hi : AtR l i e v xs) (hg : w.grownBy w' v.ownBlock) : Fr (fun b => ¬ N b) w w' :=
  Fr.of_grown hg (fun k hk => h.av i _ _ _ k hi hk)

/-- a cell of a row -/
theorem RF.cell {B N w l} (h : RF B N w l) {i e g n c xs} (hi : AtR l i e (.slice (some ⟨g, 0, none⟩) n c) xs) {j : Nat} {u : Value} (hu : xs[j]? = some u) : w.cell? ⟨g, j, none⟩ = some u := by
  have hr := h.own i _ _ _ hi
  have hj : j < xs.length := (List.getElem?_eq_some_iff.1 hu).1
  have hn : n = xs.length := by
    rcases hr.2 with ⟨hv, _⟩ | ⟨g', cap, cur, hv, _⟩
    · cases hv
    · simp only [Value.slice.injEq] at hv; exact hv.2.1
  subst hn
  rw [World.ownsRow.cellAt hr j (by simpa using hj), hu]
theorem RF.len {B N w l} (h : RF B N w l) {i e a n c xs} (hi : AtR l i e (.slice a n c) xs) : n = xs.length := by
  rcases (h.own i _ _ _ hi).2 with ⟨hv, h0⟩ | ⟨g', cap, cur, hv, _⟩
  · cases hv; exact h0.symm
  · simp only [Value.slice.injEq] at hv; exact hv.2.1
theorem RF.form {B N w l} (h : RF B N w l) {i e v xs} (hi : AtR l i e v xs) : ∃ a c, v = .slice a xs.length c := Row.form (h.own i _ _ _ hi)
theorem RF.addr {B N w l} (h : RF B N w l) {i e a n c xs} (hi : AtR l i e (.slice a n c) xs) (hn : 0 < xs.length) : ∃ g, a = some ⟨g, 0, none⟩ := by
  rcases (h.own i _ _ _ hi).2 with ⟨hv, h0⟩ | ⟨g', cap, cur, hv, _⟩
  · omega
  · cases hv; exact ⟨_, rfl⟩

section
variable {P : Program} {w : World} {ops : Array Oper} {rest : List Oper} {o : Oper} {a : Act} {Q : Exit → Act → World → Prop}

/-- append of one new cell's block (the world w1 ahead of it, the new block laid) -/
theorem RF.append {B N w1 l} (h : RF B N w1 l) {i e v xs} (hi : AtR l i e v xs) (n : Nat) (hn : n = xs.length) (hw : Below w1.heap.size w1 w) (s x : Operand) {t : TypeId} {z : Value} {bytes : Nat} (E : EltG P t e z 1 bytes)
    (hgd : o.guard = none) (ho : o.op = .call { callee := .builtin .append, args := #[s, x], argTypes := #[t, t] }) (hs : a.eval s = v) (ad : Option Addr) (m c : Nat) (news : List Value) (hx : a.eval x = .slice ad m c) (hr : RdG w 1 ad m news) (h1 : ∀ u ∈ news, u.oneCell' = true)
    (hlen : (n + m) * bytes ≤ 140737488355328) (hpos : 0 < bytes)
    (hK : ∀ a' c' w', RF B N w' (l.set i (some (e, .slice a' (n + m) c', xs ++ news))) → w.grownBy w' v.ownBlock → Below B w1 w' → Fr (fun b => ¬ N b) w1 w' → wpList P ops Q rest (a.put o.dst (.slice a' (n + m) c')) w') : wpList P ops Q (o :: rest) a w := by
  subst hn
  have hm : news.length = m := by have := hr.len; omega
  have h2 := h.below hw
  refine app_row_at s x E hgd ho B v xs.length xs hs (h2.own i _ _ _ hi) ad m c news hx hr h1 hlen hpos h2.bw ?_
  intro a' c' w' hr' hg hat
  refine hK a' c' w' ?_ hg ((hw.mono h.bw).trans (h2.grown hi hg)) ((Fr.of_below hw).trans (h2.frN hi hg))
  refine h2.turn hi (by rw [List.length_append, hm]; exact hr') hg ?_
  rcases hat with e | e
  · exact .inl e
  · exact .inr (.inl e)

/-- a store of one cell into a row -/
theorem RF.store {B N l} (h : RF B N w l) {i e g n c xs} (hi : AtR l i e (.slice (some ⟨g, 0, none⟩) n c) xs) (hgd : o.guard = none) (ty : TypeId) (x y : Operand) (ho : o.op = .store ty x y)
    (j : Nat) (hx : a.eval x = .pointer (some ⟨g, j, none⟩)) (u : Value) (hy : a.eval y = u) (hu : u.cells.toList = [u]) (h1 : u.oneCell' = true) (hsz : (P.info? ty).map (·.size) = some 1) (hj : j < xs.length)
    (hK : ∀ w', RF B N w' (l.set i (some (e, .slice (some ⟨g, 0, none⟩) n c, xs.set j u))) → w.grownBy w' (some g) → Below B w w' → Fr (fun b => ¬ N b) w w' → wpList P ops Q rest (a.put o.dst undef) w') : wpList P ops Q (o :: rest) a w := by
  have hn := h.len hi
  subst hn
  refine store_row hgd ty x y ho g j hx u hy [u] hu hsz (by simpa using h1) B e 1 xs.length c xs (h.own i _ _ _ hi) (by simp; omega) ?_
  intro w' hr hg
  refine hK w' (h.turn hi (v' := .slice (some ⟨g, 0, none⟩) xs.length c) (xs' := xs.set j u) ?_ hg (.inl rfl)) hg (h.grown hi hg) (h.frN hi hg)
  rw [List.length_set, List.set_eq_take_append_cons_drop, if_pos hj]
  simpa using hr

/-- make([]T, n) -/
theorem RF.make {B N l} (h : RF B N w l) {t e : TypeId} {z : Value} {bytes : Nat} (E : EltG P t e z 1 bytes) (hz : z.cells = #[z]) (hgd : o.guard = none) (s x : Operand) (ho : o.op = Op.makeSlice t s x) (kl kc : IntKind) (L C : Int) (n : Nat) (hs : a.eval s = .int kl L) (hx : a.eval x = .int kc C) (hL : L = (n : Int)) (hC : C = (n : Int))
    (hb : n * bytes ≤ 281474976710656) (hn : n ≤ 9223372036854775807)
    (hK : ∀ w', RF B N w' (l ++ [some (e, .slice (some ⟨w.heap.size, 0, none⟩) n n, List.replicate n z)]) → Below w.heap.size w w' → w.heap.size < w'.heap.size → wpList P ops Q rest (a.put o.dst (.slice (some ⟨w.heap.size, 0, none⟩) n n)) w') : wpList P ops Q (o :: rest) a w := by
  refine make_row E hgd s x ho B kl kc L C n hs hx hL hC hb hn h.bw ?_
  intro w' hr hg
  rw [Nat.mul_one, hz, toList_madeCells_one] at hr
  have hbl := grown_below' hg (Nat.le_refl w.heap.size)
  refine hK w' (h.new (by rw [List.length_replicate]; exact hr) hbl (.inl rfl)) hbl (Row.block_lt hr (g := w.heap.size) rfl).1

/-- make([]T, m, n) -/
theorem RF.makeLC {B N l} (h : RF B N w l) {t e : TypeId} {z : Value} {bytes : Nat} (E : EltG P t e z 1 bytes) (hz : z.cells = #[z]) (hgd : o.guard = none) (s x : Operand) (ho : o.op = Op.makeSlice t s x) (kl kc : IntKind) (L C : Int) (m n : Nat) (hs : a.eval s = .int kl L) (hx : a.eval x = .int kc C) (hL : L = (m : Int)) (hC : C = (n : Int)) (hmn : m ≤ n)
    (hb : n * bytes ≤ 281474976710656) (hn : n ≤ 9223372036854775807)
    (hK : ∀ w', RF B N w' (l ++ [some (e, .slice (some ⟨w.heap.size, 0, none⟩) m n, List.replicate m z)]) → Below w.heap.size w w' → w.heap.size < w'.heap.size → wpList P ops Q rest (a.put o.dst (.slice (some ⟨w.heap.size, 0, none⟩) m n)) w') : wpList P ops Q (o :: rest) a w := by
  obtain ⟨i, hi, hz2, hsz, hby⟩ := E.hi
  refine wpList_plain hgd fun K hK' => ?_
  have hb' : (i.bytes : Int) * (n : Int) ≤ 281474976710656 := by
    have h : ((i.bytes * n : Nat) : Int) ≤ 281474976710656 := by rw [hby, Nat.mul_comm]; omega
    rwa [Int.natCast_mul] at h
  have hr := run_make (P := P) w t e i z E.ht hi hz2 kl kc m n (by omega) (by omega) hb' (by omega)
  simp only [Int.toNat_natCast] at hr
  subst hL
  subst hC
  unfold Oper.wp
  simp only [execOp, ho, hs, hx, hr, Sem.run_bind, Sem.run_pure, Result.andThen_ok]
  refine hK' _ _ (hK _ (h.new (w' := w.alloc (.cells (madeCells z.cells (n * i.size)) e)) ?_ (below_alloc _ _) (.inl rfl)) (below_alloc _ _) (by simp))
  rw [List.length_replicate]
  refine ⟨by simp, .inr ⟨w.heap.size, n, _, rfl, h.bw, heap_alloc_new w _, hmn, by unfold maxLen; omega, ?_, ?_⟩⟩
  · rw [hsz, size_madeCells]
  · rw [hsz, Nat.mul_one, hz, toList_madeCells_one, List.take_replicate, Nat.mul_one, Nat.min_eq_left hmn]

/-- make([]T, 0, n) -/
theorem RF.make0 {B N l} (h : RF B N w l) {t e : TypeId} {z : Value} {bytes : Nat} (E : EltG P t e z 1 bytes) (hgd : o.guard = none) (s x : Operand) (ho : o.op = Op.makeSlice t s x) (kl kc : IntKind) (C : Int) (n : Nat) (hs : a.eval s = .int kl 0) (hx : a.eval x = .int kc C) (hC : C = (n : Int))
    (hb : n * bytes ≤ 281474976710656) (hn : n ≤ 9223372036854775807)
    (hK : ∀ w', RF B N w' (l ++ [some (e, .slice (some ⟨w.heap.size, 0, none⟩) 0 n, [])]) → Below w.heap.size w w' → w.heap.size < w'.heap.size → wpList P ops Q rest (a.put o.dst (.slice (some ⟨w.heap.size, 0, none⟩) 0 n)) w') : wpList P ops Q (o :: rest) a w := by
  obtain ⟨i, hi, hz, hsz, hby⟩ := E.hi
  refine wpList_make_own w hgd s x t ho B e i z 1 E.ht hi hz hsz kl kc C n hs hx hC (by rw [hby, Nat.mul_comm]; exact hb) (by unfold maxLen; omega) h.bw ?_
  intro w' hr hg
  have hbl := grown_below' hg (Nat.le_refl w.heap.size)
  exact hK w' (h.new hr hbl (.inl rfl)) hbl (Row.block_lt hr (g := w.heap.size) rfl).1
end

/-- copy into a row of the call's own, from cells that can be read, as long as the row: at a step of a region that draws -/
theorem RF.copy {P : Program} {ops : Array Oper} {o : Oper} {a : Act} {w : World} {K : Act → World → Prop} {Q : Exit → Act → World → Prop} {X : Prop} {B N l} (h : RF B N w l) {i e g n c xs} (hi : AtR l i e (.slice (some ⟨g, 0, none⟩) n c) xs)
    (hgd : o.guard = none) (d s : Operand) (dT sT : TypeId) (ho : o.op = .call { callee := .builtin .copy, args := #[d, s], argTypes := #[dT, sT] }) {z : Value} {bytes : Nat} (E : EltG P dT e z 1 bytes)
    (hd : a.eval d = .slice (some ⟨g, 0, none⟩) n c) (ad : Addr) (m : Nat) (sc : Nat) (news : List Value) (hs : a.eval s = .slice (some ad) m sc) (hr : RdG w 1 (some ad) m news) (h1 : ∀ u ∈ news, u.oneCell' = true) (hm : m = n)
    (hK : ∀ w', RF B N w' (l.set i (some (e, .slice (some ⟨g, 0, none⟩) n c, news))) → w.grownBy w' (some g) → Below B w w' → Fr (fun b => ¬ N b) w w' → K (a.put o.dst (goInt m)) w') :
    if Region.wanted o (yielded ops a.tmps) = true then Oper.wp P o a w K Q else X := by
  have hw : Region.wanted o (yielded ops a.tmps) = true := by simp [Region.wanted, hgd]
  rw [if_pos hw]
  have hn := h.len hi
  have hnl : news.length = m := by have := hr.len; omega
  subst hm
  obtain ⟨inf, hinf, hz, hsz, hby⟩ := E.hi
  have hrow := h.own i _ _ _ hi
  rcases hrow.2 with ⟨hv, _⟩ | ⟨g', cap, cur, hv, hB, hg, hnc, hcm, hcs, htake⟩
  · cases hv
  · simp only [Value.slice.injEq, Option.some.injEq, Addr.mk.injEq] at hv
    obtain ⟨⟨rfl, _⟩, _, rfl⟩ := hv
    have hrun := run_copy_row (P := P) w dT sT o.type e g 0 m c ad m sc cur e news E.ht (by rw [hinf]; simp [hsz]) hg (by rw [hnl]; exact (Nat.min_self m).symm) hr.news (by rw [hcs]; omega) h1
    unfold Oper.wp
    simp only [execOp, ho, resolve, invoke, builtin, Sem.run_bind, Sem.run_pure, Result.andThen_ok, List.map_toArray, List.map_cons, List.map_nil, hd, hs, hrun]
    have hgr : w.grownBy (w.setRow g (cur.toList.take 0 ++ news ++ cur.toList.drop (0 + news.length)).toArray) (some g) := ⟨rfl, rfl, rfl, by simp, fun k _ hk => setRow_other w g k _ (fun e => hk (by simp [e]))⟩
    have hrow' : Row (w.setRow g (cur.toList.take 0 ++ news ++ cur.toList.drop (0 + news.length)).toArray) B e 1 (.slice (some ⟨g, 0, none⟩) m c) news.length news := by
      refine ⟨by simp, .inr ⟨g, c, _, by rw [hnl], hB, setRow_heap w g cur _ e _ hg, by omega, hcm, ?_, ?_⟩⟩
      · simp; omega
      · simp
    have hfin := hK _ (h.turn hi hrow' hgr (.inl rfl)) hgr (h.grown hi hgr) (h.frN hi hgr)
    have e9 : (goInt (m : Int)) = goInt (news.length : Int) := by rw [hnl]
    rw [e9] at hfin
    exact hfin

/-- four cells of a struct read as one value -/
theorem results_cell_tmp2 {fn : Func} {p u u2 : Tmp} {ty : TypeId} (h : fn.results = #[.cell p ty, .tmp u, .tmp u2]) (tmps : Array Value) (P : Program) (w : World) :
    (results fn tmps).run P w =
      ((asAddr (tmps.getD p undef)).run P w).andThen fun a w₁ => ((loadVar ty a).run P w₁).andThen fun v w₂ => .ok (.tuple #[v, tmps.getD u undef, tmps.getD u2 undef]) w₂ := by
  simp only [results, h]
  simp [Sem.run_bind, Result.andThen]

end Go.Proofs.Ytajajkganamfiaa
