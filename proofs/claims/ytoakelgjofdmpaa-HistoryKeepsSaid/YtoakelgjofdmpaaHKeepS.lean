/-
  Keep: what stands in memory while the kept commits are copied.
-/
import Derived.Test.YtoakelgjofdmpaaHOwnP
import Derived.Test.YtoakelgjofdmpaaHKeepP
namespace Go.Proofs.Ytoakelgjofdmpaa
open Go.RowKit
set_option linter.unusedVariables false
set_option linter.unusedSimpArgs false

theorem make_ints {P : Program} {w : World} {ops : Array Oper} {rest : List Oper} {o : Oper} {a : Act} {Q : Exit → Act → World → Prop} (E : EltG P 24 3 (.int .i64 0) 1 8)
    (hgd : o.guard = none) (s x : Operand) (ho : o.op = Op.makeSlice 24 s x) (base : Nat) (kl kc : IntKind) (L C : Int) (n : Nat) (hs : a.eval s = .int kl L) (hx : a.eval x = .int kc C) (hL : L = (n : Int)) (hC : C = (n : Int))
    (hb : n * 8 ≤ 281474976710656) (hbase : base ≤ w.heap.size)
    (h : ∀ w', Own w' base 3 .i64 (.slice (some ⟨w.heap.size, 0, none⟩) n n) (List.replicate n 0) → w.grownBy w' none → wpList P ops Q rest (a.put o.dst (.slice (some ⟨w.heap.size, 0, none⟩) n n)) w') : wpList P ops Q (o :: rest) a w := by
  refine make_row E hgd s x ho base kl kc L C n hs hx hL hC hb (by omega) hbase fun w' h1 h2 => h w' ?_ h2
  have e1 : (madeCells (Value.int .i64 0).cells (n * 1)).toList = (List.replicate n (0 : Int)).map (Value.int .i64) := by
    rw [Nat.mul_one, show (Value.int .i64 0).cells = #[.int .i64 0] from rfl, toList_madeCells_one, List.map_replicate]
  show Row w' base 3 1 _ (List.replicate n (0 : Int)).length _
  rw [List.length_replicate, ← e1]; exact h1

/-- l[j] = u in a row of integers -/
theorem store_int {P : Program} {w : World} {ops : Array Oper} {rest : List Oper} {o : Oper} {a : Act} {Q : Exit → Act → World → Prop} (hgd : o.guard = none) (x y : Operand) (ho : o.op = .store 3 x y)
    (g j : Nat) (hx : a.eval x = .pointer (some ⟨g, j, none⟩)) (u : Int) (hy : a.eval y = .int .i64 u) (hi : (P.info? 3).map (·.size) = some 1)
    (base n cap : Nat) (l : List Int) (hown : Own w base 3 .i64 (.slice (some ⟨g, 0, none⟩) n cap) l) (hn : n = l.length) (hj : j < l.length)
    (h : ∀ w', Own w' base 3 .i64 (.slice (some ⟨g, 0, none⟩) n cap) (l.set j u) → w.grownBy w' (some g) → wpList P ops Q rest (a.put o.dst undef) w') : wpList P ops Q (o :: rest) a w := by
  subst hn
  refine store_row hgd _ x y ho g j hx (.int .i64 u) hy [.int .i64 u] rfl hi (by simp [Value.oneCell']) base _ 1 l.length cap _ hown (by simp; omega) ?_
  intro w' hw' hg
  refine h w' ?_ hg
  show Row w' base 3 1 _ (l.set j u).length ((l.set j u).map (Value.int .i64))
  rw [List.length_set, List.map_set, List.set_eq_take_append_cons_drop, if_pos (by simpa using hj)]
  simpa using hw'
theorem Own.icell {w : World} {base g n c : Nat} {l : List Int} (h : Own w base 3 .i64 (.slice (some ⟨g, 0, none⟩) n c) l) {j : Nat} (hj : j < l.length) : w.cell? ⟨g, j, none⟩ = some (.int .i64 (l.getD j 0)) := by
  have h0 : Row w base 3 1 (.slice (some ⟨g, 0, none⟩) n c) l.length (l.map (Value.int .i64)) := h
  have hn : n = l.length := by
    rcases h0.2 with ⟨hv, hn⟩ | ⟨g', cap, cur, hv, _⟩
    · cases hv
    · simp only [Value.slice.injEq] at hv; exact hv.2.1
  subst hn
  rw [World.ownsRow.cellAt h0 j (by simpa using hj), List.getElem?_map]
  simp [List.getD, hj]
theorem Own.ifz {w : World} {base g n c : Nat} {l : List Int} (h : Own w base 3 .i64 (.slice (some ⟨g, 0, none⟩) n c) l) (j : Nat) : w.frozen? ⟨g, j, none⟩ = false := by
  have h0 : Row w base 3 1 (.slice (some ⟨g, 0, none⟩) n c) l.length (l.map (Value.int .i64)) := h
  have hn : n = l.length := by
    rcases h0.2 with ⟨hv, hn⟩ | ⟨g', cap, cur, hv, _⟩
    · cases hv
    · simp only [Value.slice.injEq] at hv; exact hv.2.1
  subst hn
  exact World.ownsRow.frozenAt h0 j
/-- a store, as a cell that is set -/
theorem Own.iset {w : World} {base g n c : Nat} {l : List Int} (h : Own w base 3 .i64 (.slice (some ⟨g, 0, none⟩) n c) l) (j : Nat) (u : Int) : Own (w.setCell ⟨g, j, none⟩ (.int .i64 u)) base 3 .i64 (.slice (some ⟨g, 0, none⟩) n c) (l.set j u) := by
  have h0 : Row w base 3 1 (.slice (some ⟨g, 0, none⟩) n c) l.length (l.map (Value.int .i64)) := h
  have hn : n = l.length := by
    rcases h0.2 with ⟨hv, hn⟩ | ⟨g', cap, cur, hv, _⟩
    · cases hv
    · simp only [Value.slice.injEq] at hv; exact hv.2.1
  subst hn
  have hs := (World.ownsRow.stored h0 j (.int .i64 u)).1
  show Row _ base 3 1 _ (l.set j u).length ((l.set j u).map (Value.int .i64))
  rw [List.length_set, List.map_set]
  exact hs
/-- a row of integers of the call's own has its address -/
theorem Own.gaddr {w : World} {base n c : Nat} {a : Option Addr} {l : List Int} (h : Own w base 3 .i64 (.slice a n c) l) (hl : 0 < l.length) : ∃ g, a = some ⟨g, 0, none⟩ ∧ base ≤ g ∧ g < w.heap.size := by
  have h0 : Row w base 3 1 (.slice a n c) l.length (l.map (Value.int .i64)) := h
  rcases h0.2 with ⟨hv, hn⟩ | ⟨g', cap, cur, hv, _⟩
  · omega
  · simp only [Value.slice.injEq] at hv
    obtain ⟨rfl, _, _⟩ := hv
    exact ⟨g', rfl, (Row.block_lt h0 (g := g') rfl).2, (Row.block_lt h0 (g := g') rfl).1⟩

/-- the same as CpI.fr, told block by block -/
theorem CpI.fr2 {B : Nat} {w w' : World} {S : Nat → Prop} {a n c vs} (h : CpI B w a n c vs) (hf : Fr S w w') (h1 : ∀ g, (Value.slice a n c).ownBlock = some g → ¬ S g) (h2 : ∀ x ∈ vs, ∀ g, x.1.ownBlock = some g → ¬ S g) : CpI B w' a n c vs :=
  ⟨Row.fr h.row hf h1, fun x hx => Row.fr (h.own x hx) hf (h2 x hx), h.ap, h.pw⟩

/-- in a round: the marks, the new numbers, the result so far; all that the round makes lies at q or behind -/
structure KM (w wr : World) (gk gt bh B q N : Nat) (K : List Bool) (T : List Int) (a : Option Addr) (n c : Nat) (vs : List (Value × Cm)) : Prop where
  kept : OwnB wr w.heap.size (.slice (some ⟨gk, 0, none⟩) N N) K
  tn : Own wr w.heap.size 3 .i64 (.slice (some ⟨gt, 0, none⟩) N N) T
  c0 : wr.cell? ⟨bh, 0, none⟩ = some (.slice a n c)
  fz : wr.frozen? ⟨bh, 0, none⟩ = false
  cp : CpI B wr a n c vs
  cq : (∀ g, (Value.slice a n c).ownBlock = some g → g < q) ∧ ∀ x ∈ vs, ∀ g, x.1.ownBlock = some g → g < q
  lt : gk < B ∧ gt < B ∧ bh < B ∧ gk ≠ gt ∧ gk ≠ bh ∧ gt ≠ bh ∧ B ≤ q ∧ w.heap.size ≤ gk ∧ w.heap.size ≤ gt ∧ w.heap.size ≤ bh
  qle : q ≤ wr.heap.size
  bel : Below w.heap.size w wr

section
variable {w wr w' : World} {gk gt bh B q N n c : Nat} {K : List Bool} {T : List Int} {a : Option Addr} {vs : List (Value × Cm)}

theorem KM.fr {F : Nat → Prop} (h : KM w wr gk gt bh B q N K T a n c vs) (hf : Fr F wr w') (hF : ∀ b, F b → q ≤ b) : KM w w' gk gt bh B q N K T a n c vs := by
  have hl := h.lt
  have nf : ∀ b, b < q → ¬ F b := fun b hb hh => by have := hF b hh; omega
  refine ⟨Row.fr h.kept hf fun g hg => ?_, Row.fr h.tn hf fun g hg => ?_, hf.cell h.c0 (nf _ (by show bh < q; omega)), (hf.frozen (x := ⟨bh, 0, none⟩) (World.block_lt_of_cell? wr _ h.c0) (nf _ (by show bh < q; omega))).trans h.fz, h.cp.fr2 hf (fun g hg => nf g (h.cq.1 g hg)) (fun x hx g hg => nf g (h.cq.2 x hx g hg)), h.cq, h.lt, Nat.le_trans h.qle hf.size, h.bel.trans (hf.below (fun b hb => by have := hF b hb; omega) h.bel.size)⟩
  · have e9 : gk = g := Option.some.inj hg
    exact nf _ (by omega)
  · have e9 : gt = g := Option.some.inj hg
    exact nf _ (by omega)
theorem KM.below (h : KM w wr gk gt bh B q N K T a n c vs) (hb : Below wr.heap.size wr w') : KM w w' gk gt bh B q N K T a n c vs := h.fr (F := fun _ => False) (.of_below hb) (fun _ h => h.elim)
/-- a new number is stored -/
theorem KM.num {T' : List Int} (h : KM w wr gk gt bh B q N K T a n c vs) (ho : Own w' w.heap.size 3 .i64 (.slice (some ⟨gt, 0, none⟩) N N) T') (hg : wr.grownBy w' (some gt)) : KM w w' gk gt bh B q N K T' a n c vs := by
  have hl := h.lt
  have hf : Fr (fun b => b = gt) wr w' := .of_grown hg fun k hk => (Option.some.inj hk).symm
  refine ⟨Row.fr h.kept hf fun g hg e => ?_, ho, hf.cell h.c0 (fun e => by have e : bh = gt := e; omega), (hf.frozen (x := ⟨bh, 0, none⟩) (World.block_lt_of_cell? wr _ h.c0) (fun e => by have e : bh = gt := e; omega)).trans h.fz, h.cp.fr2 hf (fun g hg e => ?_) (fun x hx g hg e => ?_), h.cq, h.lt, Nat.le_trans h.qle hf.size, h.bel.trans (hf.below (fun b hb => by omega) h.bel.size)⟩
  · have e9 : gk = g := Option.some.inj hg
    omega
  · have := (Row.block_lt h.cp.row hg).2; omega
  · have := (Row.block_lt (h.cp.own x hx) hg).2; omega
theorem KM.mono {q' : Nat} (h : KM w wr gk gt bh B q N K T a n c vs) (hq : q' = wr.heap.size) : KM w wr gk gt bh B q' N K T a n c vs :=
  ⟨h.kept, h.tn, h.c0, h.fz, h.cp, ⟨fun g hg => by rw [hq]; exact (Row.block_lt h.cp.row hg).1, fun x hx g hg => by rw [hq]; exact (Row.block_lt (h.cp.own x hx) hg).1⟩, by have := h.lt; have := h.qle; omega, by omega, h.bel⟩
theorem KM.kcell (h : KM w wr gk gt bh B q N K T a n c vs) {p : Nat} (hp : p < K.length) : wr.cell? ⟨gk, p, none⟩ = some (.bool (K.getD p false)) := OwnB.cell h.kept hp
theorem KM.tcell (h : KM w wr gk gt bh B q N K T a n c vs) {p : Nat} (hp : p < T.length) : wr.cell? ⟨gt, p, none⟩ = some (.int .i64 (T.getD p 0)) := Own.icell h.tn hp

/-- a commit more -/
theorem KM.push {W w6 : World} {c5 c6 : Nat} {a5 a6 : Option Addr} {ps : List Int} {t : Int} {s : ByteArray} (h : KM w wr gk gt bh B q N K T a n c vs) (ho5 : Own wr q 3 .i64 (.slice a5 ps.length c5) ps) (hW : Below wr.heap.size wr W)
    (hr6 : Row w6 B 27 3 (.slice a6 (n + 1) c6) (n + 1) (cellsC vs ++ [.slice a5 ps.length c5, .int .i64 t, .string s]))
    (hg6 : W.grownBy w6 (Value.slice a n c).ownBlock) (hat : (Value.slice a6 (n + 1) c6).ownBlock = (Value.slice a n c).ownBlock ∨ (Value.slice a6 (n + 1) c6).ownBlock = some W.heap.size) :
    KM w (w6.setCell ⟨bh, 0, none⟩ (.slice a6 (n + 1) c6)) gk gt bh B (w6.setCell ⟨bh, 0, none⟩ (.slice a6 (n + 1) c6)).heap.size N K T a6 (n + 1) c6 (vs ++ [(.slice a5 ps.length c5, (ps, t, s))]) := by
  have hl := h.lt
  have hql := h.qle
  have hWs := hW.size
  have hf6 : Fr (fun k => (Value.slice a n c).ownBlock = some k) W w6 := .of_grown hg6 fun k hk => hk
  have hrow : ∀ g, (Value.slice a n c).ownBlock = some g → B ≤ g ∧ g < q := fun g hg => ⟨(Row.block_lt h.cp.row hg).2, h.cq.1 g hg⟩
  have hnew : ∀ g, (Value.slice a5 ps.length c5).ownBlock = some g → q ≤ g ∧ g < wr.heap.size := fun g hg => ⟨(Row.block_lt ho5 hg).2, (Row.block_lt ho5 hg).1⟩
  have hcp : CpI B w6 a6 (n + 1) c6 (vs ++ [(.slice a5 ps.length c5, (ps, t, s))]) := by
    refine ⟨by rw [cellsC_append]; exact hr6, fun x hx => ?_, fun x hx g hg e => ?_, fun i j x y hij hx hy g hg e => ?_⟩
    · rcases List.mem_append.1 hx with hx | hx
      · exact Row.fr (Row.below (h.cp.own x hx) hW) hf6 fun g hg e => h.cp.ap x hx g hg e
      · rw [List.mem_singleton] at hx
        subst hx
        exact Row.fr (Row.below (Row.mono ho5 (by omega)) hW) hf6 fun g hg e => by have := hnew g hg; have := hrow g e; omega
    · rcases List.mem_append.1 hx with hx | hx
      · have hx1 := h.cq.2 x hx g hg
        rcases hat with e2 | e2
        · rw [e2] at e; exact h.cp.ap x hx g hg e
        · rw [e2] at e
          have := Option.some.inj e
          omega
      · rw [List.mem_singleton] at hx
        subst hx
        have h5 := hnew g hg
        rcases hat with e2 | e2
        · rw [e2] at e; have := hrow g e; omega
        · rw [e2] at e
          have := Option.some.inj e
          omega
    · have key : ∀ (k : Nat) (z : Value × Cm), (vs ++ [(.slice a5 ps.length c5, (ps, t, s))])[k]? = some z → ∀ r, z.1.ownBlock = some r → (k < vs.length ∧ vs[k]? = some z ∧ r < q) ∨ (k = vs.length ∧ q ≤ r) := by
        intro k z hz r hr
        by_cases hk : k < vs.length
        · rw [List.getElem?_append_left hk] at hz
          exact .inl ⟨hk, hz, h.cq.2 z (List.mem_of_getElem? hz) r hr⟩
        · rw [List.getElem?_append_right (by omega)] at hz
          have hk2 : k = vs.length := by have := (List.getElem?_eq_some_iff.1 hz).1; simp at this; omega
          subst hk2
          simp only [Nat.sub_self, List.getElem?_cons_zero, Option.some.injEq] at hz
          subst hz
          exact .inr ⟨rfl, (hnew r hr).1⟩
      rcases key i x hx g hg with ⟨h1, h2, h3⟩ | ⟨h1, h2⟩ <;> rcases key j y hy g e with ⟨h4, h5, h6⟩ | ⟨h4, h5⟩
      · exact h.cp.pw i j x y hij h2 h5 g hg e
      · omega
      · omega
      · omega
  have hF : Fr (fun k => (Value.slice a n c).ownBlock = some k) wr w6 := (Fr.of_below hW).trans hf6
  have hb6 : Fr (fun k => k = bh) w6 (w6.setCell ⟨bh, 0, none⟩ (.slice a6 (n + 1) c6)) := (Fr.refl (fun k => k = bh) w6).setCell (p := ⟨bh, 0, none⟩) rfl _
  have hbr : ¬ (Value.slice a n c).ownBlock = some bh := fun e => by have := hrow bh e; omega
  have hc6 := hF.cell h.c0 hbr
  have hcp2 : CpI B (w6.setCell ⟨bh, 0, none⟩ (.slice a6 (n + 1) c6)) a6 (n + 1) c6 (vs ++ [(.slice a5 ps.length c5, (ps, t, s))]) := hcp.fr2 hb6 (fun g hg e => by have := (Row.block_lt hcp.row hg).2; omega) (fun x hx g hg e => by have := (Row.block_lt (hcp.own x hx) hg).2; omega)
  refine ⟨Row.fr (Row.fr h.kept hF fun g hg e => ?_) hb6 fun g hg e => ?_, Row.fr (Row.fr h.tn hF fun g hg e => ?_) hb6 fun g hg e => ?_, set_same hc6, (World.frozen?_setCell ..).trans ((hF.frozen (x := ⟨bh, 0, none⟩) (World.block_lt_of_cell? wr _ h.c0) hbr).trans h.fz), hcp2,
    ⟨fun g hg => (Row.block_lt hcp2.row hg).1, fun x hx g hg => (Row.block_lt (hcp2.own x hx) hg).1⟩, ?_, Nat.le_refl _, ?_⟩
  · have e9 : gk = g := Option.some.inj hg
    have := hrow _ e; omega
  · have e9 : gk = g := Option.some.inj hg
    omega
  · have e9 : gt = g := Option.some.inj hg
    have := hrow _ e; omega
  · have e9 : gt = g := Option.some.inj hg
    omega
  · have := hF.size; have := hb6.size; omega
  · exact (h.bel.trans (hF.below (fun b hb => by have := hrow b hb; omega) h.bel.size)).trans (hb6.below (fun b hb => by omega) (by have := h.bel.size; have := hF.size; omega))
end

theorem KM.hold {w wr W w6 : World} {gk gt bh B q N n c : Nat} {K : List Bool} {T : List Int} {a : Option Addr} {vs : List (Value × Cm)} (h : KM w wr gk gt bh B q N K T a n c vs) (hW : Below wr.heap.size wr W) (hg6 : W.grownBy w6 (Value.slice a n c).ownBlock) :
    w6.cell? ⟨bh, 0, none⟩ = some (.slice a n c) ∧ w6.frozen? ⟨bh, 0, none⟩ = false := by
  have hl := h.lt
  have hf6 : Fr (fun k => (Value.slice a n c).ownBlock = some k) wr w6 := (Fr.of_below hW).trans (.of_grown hg6 fun k hk => hk)
  have hbr : ¬ (Value.slice a n c).ownBlock = some bh := fun e => by have := (Row.block_lt h.cp.row e).2; omega
  exact ⟨hf6.cell h.c0 hbr, (hf6.frozen (x := ⟨bh, 0, none⟩) (World.block_lt_of_cell? wr _ h.c0) hbr).trans h.fz⟩

theorem own_par2 {w : World} {B : Nat} {T : Nat → Prop} {v : Value} {ps : List Int} (ho : Own w B 3 .i64 v ps) (hpwf : ∀ p ∈ ps, (Lit.int .i64 p).wf = true) (hT2 : ∀ g, v.ownBlock = some g → T g) : Par w T v ps := by
  obtain ⟨a, c, rfl⟩ := Own.form ho
  refine ⟨a, ps.length, c, rfl, ⟨ho.cap, fun ha => ?_⟩, ho.rd hpwf, fun x hx hn => hT2 _ ?_⟩
  · subst ha
    rcases ho.2 with ⟨hv, _⟩ | ⟨g, cap, cur, hv, _⟩
    · simp only [Value.slice.injEq] at hv; exact hv.2.2
    · simp at hv
  · rcases ho.2 with ⟨hv, _⟩ | ⟨g, cap, cur, hv, _⟩
    · simp only [Value.slice.injEq] at hv; rw [hv.1] at hx; cases hx
    · simp only [Value.slice.injEq] at hv; rw [hv.1] at hx ⊢; cases hx; rfl
theorem keep_wf {L : List Cm} {l : List Int} (hL : GoodL L) (hw : WfL L) {k : Nat} (hk : k ≤ L.length) (hn : L.length ≤ 65536) : WfL (keepTo L l k) := by
  intro x hx
  obtain ⟨n, hn2, rfl⟩ := List.mem_map.1 hx
  have hnk := List.mem_range.1 (List.mem_filter.1 hn2).1
  have hm : L.getD n ([], 0, .empty) ∈ L := getD_mem (by omega)
  obtain ⟨h1, h2, _⟩ := hw _ hm
  refine ⟨h1, h2, fun p hp => ?_⟩
  obtain ⟨q, hq, rfl⟩ := List.mem_map.1 hp
  have h3 := pars_lt hL (show q ∈ parsOf L n from hq)
  exact WalkArith.wf_i64 (by have := rank_le l q.toNat; omega)
theorem toL_wf {l : List Int} {N k : Nat} (hN : N ≤ 65536) : ∀ x ∈ toL l N k, (Lit.int .i64 x).wf = true := by
  intro x hx
  obtain ⟨n, hn, rfl⟩ := List.mem_map.1 hx
  have hn := List.mem_range.1 hn
  have := rank_le l n
  split
  · unfold toV
    split
    · exact WalkArith.wf_i64 (by omega)
    · decide
  · decide
/-- the graph that is handed back -/
theorem KM.gi {w wr : World} {gk gt bh B q N c : Nat} {K : List Bool} {T : List Int} {a : Option Addr} {vs : List (Value × Cm)} {L : List Cm} {l : List Int} (h : KM w wr gk gt bh B q N K T a (rank l L.length) c vs)
    (hvl : vs.map (·.2) = keepTo L l L.length) (hw : WfL L) (hn : L.length ≤ 65536) (hwk : WfL (keepTo L l L.length)) : GI wr (fun b => w.heap.size ≤ b) bh (keepTo L l L.length) := by
  have hl := h.lt
  have hr := rank_le l L.length
  refine ⟨⟨fun b => B ≤ b ∧ ∀ g, (Value.slice a (rank l L.length) c).ownBlock = some g → b ≠ g, a, c, by rw [keepTo_len]; exact h.c0, ?_, fun hh => ?_, fun e => ?_⟩, h.fz, hl.2.2.2.2.2.2.2.2.2, by rw [keepTo_len]; omega⟩
  · rw [keepTo_len]
    refine ⟨⟨vs, hvl.symm, Row.mono h.cp.row (Nat.zero_le _), fun x hx => ?_⟩, fun g hg => ⟨?_, fun hh => hh.2 g hg rfl⟩, fun i hi => by have := hi.1; omega, hwk⟩
    · refine own_par2 (h.cp.own x hx) (hwk _ (by rw [← hvl]; exact List.mem_map.2 ⟨x, hx, rfl⟩)).2.2 fun g hg => ⟨(Row.block_lt (h.cp.own x hx) hg).2, fun g2 hg2 e => h.cp.ap x hx g hg (e ▸ hg2)⟩
    · have := (Row.block_lt h.cp.row (by rw [← keepTo_len L l L.length] at *; exact hg)).2; omega
  · have := hh.1; omega
  · rw [keepTo_len] at e
    have := (Row.block_lt h.cp.row e).2; omega

theorem map_step {l ps : List Int} {j r : Nat} (hj : j < ps.length) (hr : ps.getD j 0 = (r : Int)) : (mapP l (ps.take j) ++ ps.drop j).set j (rank l r : Int) = mapP l (ps.take (j + 1)) ++ ps.drop (j + 1) := by
  have hl : (mapP l (ps.take j)).length = j := by rw [mapP, List.length_map, List.length_take]; omega
  have hd : ps.drop j = ps[j] :: ps.drop (j + 1) := List.drop_eq_getElem_cons hj
  have hr2 : ps[j] = (r : Int) := by simpa [List.getD, hj] using hr
  rw [List.set_append_right _ _ (by omega), hl, Nat.sub_self, hd, List.set_cons_zero, getD_take_snoc (d := 0) hj, hr]
  unfold mapP
  rw [List.map_append, List.append_assoc]
  simp

/-- the marks of a list -/
theorem mark_at {l : List Int} {N p : Nat} (h0 : ∀ k ∈ l, 0 ≤ k) (hp : p < N) : (markP (List.replicate N false) l).getD p false = l.contains (p : Int) := by
  rw [Bool.eq_iff_iff, markP_get l _ p (by rw [List.length_replicate]; exact hp) h0, List.contains_iff_mem]
  simp [List.getD, hp]
theorem mark_len (l : List Int) (N : Nat) : (markP (List.replicate N false) l).length = N := by rw [markP_len, List.length_replicate]

end Go.Proofs.Ytoakelgjofdmpaa
