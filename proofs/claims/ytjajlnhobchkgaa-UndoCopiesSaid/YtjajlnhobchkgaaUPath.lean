/-
  Parent, Path and Children of a tree.
-/
import Derived.Test.YtjajlnhobchkgaaURetW
import Derived.Lib.SliceRun
namespace Go.Proofs.Ytjajlnhobchkgaa
open Go.RowKit
set_option linter.unusedVariables false
set_option linter.unusedSimpArgs false

/-- goes through only where the operation is this one -/
theorem guard_op {P : Program} {w : World} {ops : Array Oper} {rest : List Oper} {o : Oper} {a : Act} {Q : Exit → Act → World → Prop} (op : Op) (_ : o.op = op) (h : wpList P ops Q (o :: rest) a w) : wpList P ops Q (o :: rest) a w := h

/-- s[j] = u, integers -/
theorem store_int {P : Program} {w : World} {ops : Array Oper} {rest : List Oper} {o : Oper} {a : Act} {Q : Exit → Act → World → Prop} (hgd : o.guard = none) (t : TypeId) (k : IntKind) (x y : Operand) (ho : o.op = .store t x y)
    (g j : Nat) (hx : a.eval x = .pointer (some ⟨g, j, none⟩)) (u : Int) (hy : a.eval y = .int k u) (hi : (P.info? t).map (·.size) = some 1)
    (base n cap : Nat) (e : TypeId) (l : List Int) (hown : Own w base e k (.slice (some ⟨g, 0, none⟩) n cap) l) (hn : n = l.length) (hj : j < l.length)
    (h : ∀ w', Own w' base e k (.slice (some ⟨g, 0, none⟩) n cap) (l.set j u) → w.grownBy w' (some g) → wpList P ops Q rest (a.put o.dst undef) w') : wpList P ops Q (o :: rest) a w := by
  subst hn
  refine store_row hgd t x y ho g j hx (.int k u) hy [.int k u] rfl hi (by simp [Value.oneCell']) base e 1 l.length cap _ hown (by simp; omega) ?_
  intro w' hw' hg
  refine h w' ?_ hg
  unfold Own
  rw [List.length_set, List.map_set, List.set_eq_take_append_cons_drop, if_pos (by simpa using hj)]
  simpa using hw'

/-- the path from the root to v -/
inductive IsPath (l : List Nd) : Nat → List Nat → Prop
  | root : IsPath l 0 [0]
  | step {p v : Nat} {x : Nd} {us : List Nat} : l[v]? = some x → x.parent = p → p < v → IsPath l p us → IsPath l v (us ++ [v])

theorem IsPath.uniq {l : List Nd} {v : Nat} {us : List Nat} (h : IsPath l v us) : ∀ us', IsPath l v us' → us = us' := by
  induction h with
  | root => intro us' h'; cases h' with
    | root => rfl
    | step _ _ h3 _ => omega
  | step h1 h2 h3 _ ih =>
    intro us' h'
    cases h' with
    | root => omega
    | step k1 k2 k3 k4 =>
      rw [h1] at k1; cases k1
      have e := h2.symm.trans k2
      have e2 := Int.ofNat.inj e
      subst e2
      rw [ih _ k4]

theorem path_ex {l : List Nd} (h : WfT l) (v : Nat) : v < l.length → ∃ us, IsPath l v us := by
  induction v using Nat.strongRecOn with
  | ind v ih =>
    intro hv
    rcases Nat.eq_zero_or_pos v with e | e
    · subst e; exact ⟨_, .root⟩
    · obtain ⟨p, y, h1, h2, h3, _⟩ := h.par v _ (List.getElem?_eq_getElem hv) e
      obtain ⟨us, hus⟩ := ih p h2 (by omega)
      exact ⟨_, .step (List.getElem?_eq_getElem hv) h1 h2 hus⟩

theorem IsPath.facts {l : List Nd} (hw : WfT l) {v : Nat} {us : List Nat} (h : IsPath l v us) : 0 < us.length ∧ us.getD 0 0 = 0 ∧ us.getD (us.length - 1) 0 = v ∧ (∀ j, j + 1 < us.length → ∃ x, l[us.getD (j + 1) 0]? = some x ∧ x.parent = (us.getD j 0 : Nat)) ∧ (∀ x, l[v]? = some x → (us.length : Int) = x.depth + 1) := by
  induction h with
  | root => exact ⟨by simp, rfl, rfl, fun j hj => by simp at hj, fun x hx => by have := hw.root x hx; simp; omega⟩
  | @step p v x us h1 h2 h3 _ ih =>
    obtain ⟨a1, a2, a3, a4, a5⟩ := ih
    have hl : ∀ j, j < us.length → (us ++ [v]).getD j 0 = us.getD j 0 := fun j hj => by
      rw [List.getD_eq_getElem?_getD, List.getElem?_append_left hj, ← List.getD_eq_getElem?_getD]
    have hr : (us ++ [v]).getD us.length 0 = v := by
      rw [List.getD_eq_getElem?_getD, List.getElem?_append_right (Nat.le_refl _), Nat.sub_self]; rfl
    refine ⟨by simp, by rw [hl 0 a1]; exact a2, by rw [List.length_append, List.length_singleton, Nat.add_sub_cancel]; exact hr, fun j hj => ?_, fun y hy => ?_⟩
    · rw [List.length_append, List.length_singleton] at hj
      by_cases e : j + 1 < us.length
      · rw [hl _ e, hl _ (by omega)]; exact a4 j e
      · obtain rfl : j = us.length - 1 := by omega
        rw [show us.length - 1 + 1 = us.length by omega, hr, hl _ (by omega), a3]
        exact ⟨x, h1, h2⟩
    · rw [h1] at hy; cases hy
      obtain ⟨q, z, e1, e2, e3, e4⟩ := hw.par v x h1 (by omega)
      have e5 := Int.ofNat.inj (h2.symm.trans e1)
      subst e5
      have := a5 z e3
      simp; omega

theorem set_path {L : List Int} {j : Nat} (hj : j < L.length) : (List.replicate (j + 1) (0 : Int) ++ L.drop (j + 1)).set j (L.getD j 0) = List.replicate j 0 ++ L.drop j := by
  rw [List.replicate_succ', List.append_assoc, List.set_append_right _ _ (by simp)]
  rw [List.drop_eq_getElem_cons hj]
  simp [List.getD, hj]

theorem EI : Elt Try.prog 26 3 .i64 8 := ⟨Try.underlying26, info_parts (by kernel_rfl)⟩

set_option maxRecDepth 100000 in
set_option maxHeartbeats 2000000 in
theorem parent_ok (S : Nat → Prop) (bt : Nat) (l : List Nd) (now : Int) (k : Nat) (w : World) (ht : TI w S bt l now) (x : Nd) (hx : l[k]? = some x) (hlen : l.length ≤ 1000) :
    Calls Try.prog 22 #[.pointer (some ⟨bt, 0, none⟩), .int .i64 k] w fun e w' => e = .returned (.tuple #[.int .i64 x.parent, .nilIface]) ∧ w = w' := by
  obtain ⟨g, n, c, vs, hT, rfl, hSg, hSo⟩ := ht.ex
  have hk : k < vs.length := by have := (List.getElem?_eq_some_iff.1 hx).1; simpa using this
  obtain ⟨⟨v, nd⟩, hvx⟩ : ∃ y, vs[k]? = some y := ⟨_, List.getElem?_eq_getElem hk⟩
  obtain rfl : nd = x := by rw [List.getElem?_map, hvx] at hx; simpa using hx
  have hn : n = vs.length := hT.hn
  have hlen2 : vs.length ≤ 1000 := by simpa using hlen
  have hnn : (k : Int) < (n : Int) := by omega
  have hn9 : (n : Int) ≤ 1000 := by omega
  have HCHK := Lib.hid (check_ok bt g n c k w hT.c0 (by omega) (by omega) (by omega))
  have hne : ∀ w, (binOp .neq 28 .nilIface .nilIface).run Try.prog w = .ok (.bool false) w := fun w => by kernel_rfl
  have hc0 := hT.c0
  have hpa := (hT.node hvx).2.1
  simp only at hpa
  clear ht hT hx hvx hSg hSo hn hlen hk hlen2
  go_enter Try.func22, Try.ntmps22
  go_wp2_with fail
  refine HCHK.out.mono ?_
  rintro e w1 ⟨rfl, rfl⟩
  go_wp2
  go_ret2
  exact ⟨rfl, rfl⟩

def PathPost (l : List Nd) (us : List Nat) (w : World) (e : Ending) (w' : World) : Prop :=
  ∃ a c, e = .returned (.tuple #[.slice a us.length c, .nilIface]) ∧ Own w' w.heap.size 3 .i64 (.slice a us.length c) (ints us) ∧ Below w.heap.size w w'

set_option maxRecDepth 100000 in
set_option maxHeartbeats 4000000 in
theorem path_ok (S : Nat → Prop) (bt : Nat) (l : List Nd) (now : Int) (k : Nat) (w : World) (ht : TI w S bt l now) (hw : WfT l) (us : List Nat) (hp : IsPath l k us) (hk : k < l.length) (hlen : l.length ≤ 1000) :
    Calls Try.prog 23 #[.pointer (some ⟨bt, 0, none⟩), .int .i64 k] w (PathPost l us w) := by
  obtain ⟨f1, f2, f3, f4, f5⟩ := hp.facts hw
  obtain ⟨g, n, c, vs, hT, rfl, hSg, hSo⟩ := ht.ex
  rw [List.length_map] at hlen hk
  obtain ⟨⟨v0, x0⟩, hx0⟩ : ∃ y, vs[k]? = some y := ⟨_, List.getElem?_eq_getElem hk⟩
  have hx0m : (vs.map (·.2))[k]? = some x0 := by rw [List.getElem?_map, hx0]; rfl
  have hdep := f5 x0 hx0m
  have hdp := hw.dep k x0 hx0m
  have hn : n = vs.length := hT.hn
  have HCHK := Lib.hid (check_ok bt g n c k w hT.c0 (by omega) (by omega) (by omega))
  have hne : ∀ w, (binOp .neq 28 .nilIface .nilIface).run Try.prog w = .ok (.bool false) w := fun w => by kernel_rfl
  have hn9 : (n : Int) ≤ 1000 := by omega
  have hnn : (k : Int) < (n : Int) := by omega
  have hc0 := hT.c0
  have hd := (hT.node hx0).2.2.2.1
  simp only at hd
  have hwr : IntKind.i64.wrap (x0.depth + 1) = x0.depth + 1 := IntWalk.i64_in _ (by omega)
  have HT := Lib.hid hT
  have HW := Lib.hid hw
  have HN := Lib.hid hn
  have HF1 := Lib.hid f1
  have HF2 := Lib.hid f2
  have HF3 := Lib.hid f3
  have HF4 := Lib.hid f4
  have hd0 : 0 ≤ x0.depth := hdp.1
  have hd9 : x0.depth ≤ 1000 := by omega
  have HDEP := Lib.hid hdep
  have hul9 : (us.length : Int) ≤ 1001 := by omega
  have HUL : Hid (us.length ≤ 1001) := Lib.hid (by omega)
  have HKL := Lib.hid hk
  clear ht hT hx0 hx0m hSg hSo hn hlen hk hw hp f1 f2 f3 f4 f5 hdep hdp
  go_enter Try.func23, Try.ntmps23
  go_wp2_with fail
  refine HCHK.out.mono ?_
  rintro e w' ⟨rfl, rfl⟩
  go_wp2_with (at_make; refine make_full EI rfl _ _ rfl w.heap.size _ _ _ _ us.length rfl rfl (by rw [HDEP.out]) (by rw [HDEP.out]) (by have := HUL.out; omega) (by have := HUL.out; omega) (Nat.le_refl _) ?_; intro w1 ho1 hg1)
  have HO1 := Lib.hid ho1
  have HB1 : Hid (Below w.heap.size w w1) := Lib.hid (Below.grown (Below.refl w.heap.size w) hg1 (Nat.le_refl _) (by simp))
  clear ho1 hg1 hc0 hd hwr HDEP
  obtain ⟨L, hL⟩ : ∃ L, L = ints us := ⟨_, rfl⟩
  have HLD := Lib.hid hL
  have HLL : Hid (L.length = us.length) := Lib.hid (by rw [hL]; simp)
  clear hL
  generalize hN : us.length = N at *
  have HNU := Lib.hid hN
  clear hN
  go_wp2
  go_loopw [1, 8] (fun nv iv wr => ((∃ j : Nat, iv = .int .i64 j ∧ j < N ∧ nv = .int .i64 (us.getD j 0 : Nat) ∧ Own wr w.heap.size 3 .i64 (.slice (some ⟨w.heap.size, 0, none⟩) N N) (List.replicate (j + 1) 0 ++ L.drop (j + 1))) ∨ (iv = .int .i64 (-1) ∧ (∃ z : Int, nv = .int .i64 z) ∧ Own wr w.heap.size 3 .i64 (.slice (some ⟨w.heap.size, 0, none⟩) N N) L)) ∧ Below w.heap.size w wr) (fun _ iv _ => (intOf iv + 1).toNat)
  case atStart =>
    refine ⟨.inl ⟨N - 1, congrArg (Value.int .i64) (by have := HF1.out; omega), by have := HF1.out; omega, by rw [HF3.out], ?_⟩, HB1.out⟩
    rw [show N - 1 + 1 = N by have := HF1.out; omega, List.drop_of_length_le (by rw [HLL.out]; exact Nat.le_refl _), List.append_nil]
    exact HO1.out
  case round =>
    obtain ⟨⟨j, rfl, hj, rfl, ho⟩ | ⟨rfl, ⟨z, rfl⟩, ho⟩, hb⟩ := hrel
    · obtain ⟨q, hq⟩ : ∃ q, q = us.getD j 0 := ⟨_, rfl⟩
      have hnode : ∃ v x, vs[q]? = some (v, x) ∧ ((j = 0 ∧ x.parent = -1) ∨ ∃ i, j = i + 1 ∧ x.parent = (us.getD i 0 : Nat)) := by
        have key : ∀ x, (vs.map (·.2))[q]? = some x → ∃ v, vs[q]? = some (v, x) := by
          intro x hx
          rw [List.getElem?_map, Option.map_eq_some_iff] at hx
          obtain ⟨⟨v, y⟩, hy, rfl⟩ := hx
          exact ⟨v, hy⟩
        rcases Nat.eq_zero_or_pos j with e | e
        · subst e
          have h0 : q = 0 := by rw [hq, HF2.out]
          have hp := HW.out.pos
          have hx := List.getElem?_eq_getElem hp
          obtain ⟨v, hv⟩ := key _ (by rw [h0]; exact hx)
          exact ⟨v, _, hv, .inl ⟨rfl, (HW.out.root _ hx).1⟩⟩
        · obtain ⟨i, rfl⟩ : ∃ i, j = i + 1 := ⟨j - 1, by omega⟩
          obtain ⟨x, h1, h2⟩ := HF4.out i hj
          rw [← hq] at h1
          obtain ⟨v, hv⟩ := key x h1
          exact ⟨v, x, hv, .inr ⟨i, rfl, h2⟩⟩
      obtain ⟨v, x, hvx, hpar⟩ := hnode
      have hTr := HT.out.below hb
      have hql : q < vs.length := (List.getElem?_eq_some_iff.1 hvx).1
      have hqn : (q : Int) < (n : Int) := by have := HN.out; omega
      have hcr := hTr.c0
      have hpr := (hTr.node hvx).2.1
      simp only at hpr
      have hbt : bt < w.heap.size := World.block_lt_of_cell? w _ HT.out.c0
      have hgl : g < w.heap.size := (Row.block_lt HT.out.row rfl).1
      have hne1 : (some bt : Option Nat) ≠ some w.heap.size := fun e => by have := Option.some.inj e; omega
      have hne2 : (some g : Option Nat) ≠ some w.heap.size := fun e => by have := Option.some.inj e; omega
      have HNE := Lib.hid (And.intro hne1 hne2)
      have HO := Lib.hid ho
      have HB := Lib.hid hb
      have HPAR := Lib.hid hpar
      have HQ := Lib.hid hq
      have HJ := Lib.hid hj
      have HSZ : Hid (w.heap.size ≤ wr.heap.size) := Lib.hid hb.size
      have hjn : (j : Int) < (N : Int) := by omega
      have hj0 : (0 : Int) ≤ (j : Int) := by omega
      have hj9 : (j : Int) ≤ 1001 := by omega
      rw [← hq]
      clear hq hvx hpar hTr hql hbt hgl hne1 hne2 ho hb
      go_wp2_with (refine guard_op (.store 3 (.tmp 35) (.tmp 34)) rfl ?_; refine store_int rfl 3 .i64 (.tmp 35) (.tmp 34) rfl w.heap.size j rfl q rfl (by kernel_rfl) w.heap.size N N 3 (List.replicate (j + 1) 0 ++ L.drop (j + 1)) HO.out (by have := HLL.out; have := HJ.out; simp; omega) (by simp; omega) ?_; intro w2 ho2 hg2; have hc2 := hg2.cell hcr HNE.out.1; have hp2 := hg2.cell hpr HNE.out.2; have HO2 := Lib.hid ho2; have HG2 := Lib.hid hg2; clear ho2 hg2 hcr hpr)
      go_roundw
      case rel =>
        have hown : Own w2 w.heap.size 3 .i64 (.slice (some ⟨w.heap.size, 0, none⟩) N N) (List.replicate j 0 ++ L.drop j) := by
          have h := HO2.out
          have e : (q : Int) = L.getD j 0 := by rw [HLD.out, ints_getD, ← HQ.out]
          rw [e, set_path (by have := HLL.out; have := HJ.out; omega)] at h
          exact h
        refine ⟨?_, HB.out.grown HG2.out HSZ.out (fun k e => by cases e; exact Nat.le_refl _)⟩
        rcases HPAR.out with ⟨e, ep⟩ | ⟨i, e, ep⟩
        · refine .inr ⟨congrArg (Value.int .i64) (by omega), ⟨_, rfl⟩, ?_⟩
          subst e
          exact hown
        · refine .inl ⟨i, congrArg (Value.int .i64) (by omega), by have := HJ.out; omega, congrArg (Value.int .i64) ep, ?_⟩
          subst e
          exact hown
      case measure => simp [intOf] <;> omega
    · have HO := Lib.hid ho
      have HB := Lib.hid hb
      clear ho hb
      go_wp2
      go_ret2
      exact ⟨some ⟨w.heap.size, 0, none⟩, N, by rw [HNU.out]; rfl, by rw [HNU.out, ← HLD.out]; exact HO.out, HB.out⟩

def KidsPost (l : List Int) (w : World) (e : Ending) (w' : World) : Prop :=
  ∃ a c, e = .returned (.tuple #[.slice a l.length c, .nilIface]) ∧ Own w' w.heap.size 3 .i64 (.slice a l.length c) l ∧ Below w.heap.size w w'

set_option maxRecDepth 100000 in
set_option maxHeartbeats 1000000 in
theorem clone_own (a : Option Addr) (c : Nat) (l : List Int) (w : World) (ho : Own w 0 3 .i64 (.slice a l.length c) l) (hwf : ∀ x ∈ l, (Lit.int .i64 x).wf = true) (hn : l.length ≤ 1000) :
    Calls Try.prog 45 #[.slice a l.length c] w fun e w' => ∃ a' c', e = .returned (.slice a' l.length c') ∧ Own w' w.heap.size 3 .i64 (.slice a' l.length c') l ∧ Below w.heap.size w w' := by
  rcases ho.2 with ⟨hv, h0⟩ | ⟨g, cap, cur, hv, -⟩
  · obtain rfl := List.eq_nil_of_length_eq_zero h0
    simp at hv
    obtain ⟨rfl, rfl⟩ := hv
    clear ho hwf hn h0
    simp only [List.length_nil]
    have he := fun w => Lib.run_eql_slice_nil (P := Try.prog) w 26 _ none 0 0 0 0 Try.underlying26
    go_enter Try.func45, Try.ntmps45
    go_wp2
    go_ret
    exact ⟨none, 0, rfl, Own.nil _ _ _ _, Below.refl _ _⟩
  · simp only [Value.slice.injEq] at hv
    obtain ⟨rfl, -, rfl⟩ := hv
    have HR := Lib.hid ((ho.rd hwf).below (below_alloc w (.cells #[] 3)))
    have HNN := Lib.hid hn
    clear ho hwf hn
    generalize hN : l.length = N at *
    have HL := Lib.hid hN
    clear hN
    have he := fun w => Lib.run_eql_slice_nil (P := Try.prog) w 26 _ (some ⟨g, 0, none⟩) N c 0 0 Try.underlying26
    go_enter Try.func45, Try.ntmps45
    go_wp2_with (at_builtin; refine app_rd _ _ EI rfl rfl w.heap.size _ [] rfl (Own.lits w .i64 _ [] _ (Nat.le_refl _) (by simp)) _ _ _ l rfl HR.out (by rw [HL.out]; have := HNN.out; simp; omega) (by omega) (by simp) ?_; intro a7 c7 w7 ho7 hg7)
    go_ret
    exact ⟨a7, c7, ret_eq (by rw [← HL.out]; rfl), by rw [← HL.out]; exact ho7, (Below.alloc (Below.refl w.heap.size w) (Nat.le_refl _) _).trans (grown_below (Own.lits w .i64 3 [] w.heap.size (Nat.le_refl _) (by simp)) hg7 (by simp))⟩

set_option maxRecDepth 100000 in
set_option maxHeartbeats 2000000 in
theorem children_ok (S : Nat → Prop) (bt : Nat) (l : List Nd) (now : Int) (k : Nat) (w : World) (ht : TI w S bt l now) (hw : WfT l) (x : Nd) (hx : l[k]? = some x) (hlen : l.length ≤ 1000) :
    Calls Try.prog 24 #[.pointer (some ⟨bt, 0, none⟩), .int .i64 k] w (KidsPost x.kids w) := by
  obtain ⟨g, n, c, vs, hT, rfl, hSg, hSo⟩ := ht.ex
  have hk : k < vs.length := by have := (List.getElem?_eq_some_iff.1 hx).1; simpa using this
  obtain ⟨⟨v, nd⟩, hvx⟩ : ∃ y, vs[k]? = some y := ⟨_, List.getElem?_eq_getElem hk⟩
  obtain rfl : nd = x := by rw [List.getElem?_map, hvx] at hx; simpa using hx
  have hn : n = vs.length := hT.hn
  have hlen2 : vs.length ≤ 1000 := by simpa using hlen
  have hnn : (k : Int) < (n : Int) := by omega
  have hn9 : (n : Int) ≤ 1000 := by omega
  have HCHK := Lib.hid (check_ok bt g n c k w hT.c0 (by omega) (by omega) (by omega))
  have hne : ∀ w, (binOp .neq 28 .nilIface .nilIface).run Try.prog w = .ok (.bool false) w := fun w => by kernel_rfl
  have hc0 := hT.c0
  have hpa := (hT.node hvx).2.2.2.2
  have hown := hT.own _ (List.mem_of_getElem? hvx)
  simp only at hpa hown
  obtain ⟨ka, kc, rfl⟩ := hown.form
  have hkl := hw.kids_len hx
  have HCL := Lib.hid (clone_own ka kc nd.kids w hown (fun y hy => by
    obtain ⟨i, z, rfl, hz, _⟩ := ((hw.kids k nd hx).2 y).1 hy
    have := WfT.lt hz
    exact WalkArith.wf_i64 (by omega)) (by omega))
  clear ht hT hx hvx hSg hSo hn hlen hk hlen2 hown hkl hw
  go_enter Try.func24, Try.ntmps24
  go_wp2_with fail
  refine HCHK.out.mono ?_
  rintro e w1 ⟨rfl, rfl⟩
  go_wp2_with fail
  refine HCL.out.mono ?_
  rintro e w2 ⟨a, c2, rfl, ho, hb⟩
  go_wp2
  go_ret2
  exact ⟨a, c2, rfl, ho, hb⟩

end Go.Proofs.Ytjajlnhobchkgaa
