/-
  Joined texts: the persistent map, walked in company: entry. · the persistent map, walked in company: level, where the left side is not the taller one. · the persistent map, walked in company: level. · the persistent map, walked in company: put. · the persistent map, walked in company: Get.
-/
import Derived.Test.YtacfhfeegalmlaaWW3

/- the persistent map, walked in company: entry. -/
namespace Go.Proofs.Ytacfhfeegalmlaa
open Go.Conc
set_option linter.unusedVariables false
set_option linter.unusedSimpArgs false

/-- what entry tells of a node -/
def entV : Tr → Value
  | .lf => .tuple #[.string (ByteArray.mk #[]), .int .i64 0, .bool false]
  | .nd _ key val _ _ _ => .tuple #[.string key, .int .i64 val, .bool true]
def Tr.dp : Tr → Nat
  | .lf => 0
  | .nd l _ _ r _ _ => 1 + l.dp + r.dp
set_option maxRecDepth 100000 in
theorem entry_k {main : Who} (k : Kn) (p : Value) (t : Tr) (h : TrK k.ro p t) :
    CallsK Try.prog main 30 #[p] k fun v k' => v = entV t ∧ k = k' := by
  (refine callsK_of Try.func30 (by first | rfl | kernel_rfl) rfl ?_; simp only [Try.ntmps30, List.size_toArray, List.length_cons, List.length_nil, Nat.reduceAdd, Nat.reduceSub, Array.replicate_succ, Array.replicate_zero, List.push_toArray, List.append_toArray, List.nil_append, List.cons_append])
  cases t with
  | lf =>
    obtain rfl := h
    refine goF ?_
    exact retK3 rfl rfl ⟨rfl, rfl⟩
  | nd l key val r h s =>
    obtain ⟨b, pl, pr, rfl, h0, h1, h2, h3, h4, h5, hl, hr⟩ := h
    refine goI ?_
    (refine wpK_region_held (fun k' => k.Grow k') (by kernel_rfl) ?_; simp only [List.size_toArray, List.length_cons, List.length_nil, Nat.reduceAdd, Nat.zero_add])
    refine tkI 0 ?_
    refine tkI 1 ?_
    refine tkI 2 ?_
    refine tkI 3 ?_
    refine tkI 4 ?_
    refine tkI 5 ?_
    refine tkI 6 ?_
    refine tkI 7 ?_
    refine tkI 8 ?_
    refine tkI 9 ?_
    refine tkI 10 ?_
    refine anyK_done (by kernel_rfl) ?_ _
    simp only [thenK, blockK, if_true, if_false, reduceIte, Nat.reduceEqDiff]
    refine goF ?_
    exact retK3 rfl rfl ⟨rfl, rfl⟩

set_option maxRecDepth 100000 in
theorem find_k {main : Who} (key : ByteArray) (k : Kn) (t : Tr) (p : Value) (h : TrK k.ro p t) :
    CallsK Try.prog main 31 #[p, .string key] k fun v k' => TrK k.ro v (findT t key) ∧ k = k' := by
  (refine callsK_of Try.func31 (by first | rfl | kernel_rfl) rfl ?_; simp only [Try.ntmps31, List.size_toArray, List.length_cons, List.length_nil, Nat.reduceAdd, Nat.reduceSub, Array.replicate_succ, Array.replicate_zero, List.push_toArray, List.append_toArray, List.nil_append, List.cons_append])
  refine goF ?_
  refine wpK_loop (measure Tr.dp).wf (I := fun t' a' k' => k = k' ∧ findT t' key = findT t key ∧ ∃ p' T, a' = ⟨T, []⟩ ∧ T = #[p', .string key, (fun j => T.getD j undef) 2, (fun j => T.getD j undef) 3, .pointer none, (fun j => T.getD j undef) 5, (fun j => T.getD j undef) 6, (fun j => T.getD j undef) 7, (fun j => T.getD j undef) 8, (fun j => T.getD j undef) 9, (fun j => T.getD j undef) 10, (fun j => T.getD j undef) 11, (fun j => T.getD j undef) 12, (fun j => T.getD j undef) 13, (fun j => T.getD j undef) 14, (fun j => T.getD j undef) 15, (fun j => T.getD j undef) 16, (fun j => T.getD j undef) 17, (fun j => T.getD j undef) 18, (fun j => T.getD j undef) 19, (fun j => T.getD j undef) 20, (fun j => T.getD j undef) 21, (fun j => T.getD j undef) 22, (fun j => T.getD j undef) 23, (fun j => T.getD j undef) 24, (fun j => T.getD j undef) 25, (fun j => T.getD j undef) 26, (fun j => T.getD j undef) 27, (fun j => T.getD j undef) 28, (fun j => T.getD j undef) 29] ∧ TrK k.ro p' t') (x := t) ⟨rfl, rfl, p, _, rfl, rfl, h⟩ ?_
  rintro t1 _ _ ⟨rfl, hf, p1, T, rfl, hT, h1⟩
  obtain ⟨x, rfl⟩ : ∃ x : Nat → Value, T = #[p1, .string key, x 2, x 3, .pointer none, x 5, x 6, x 7, x 8, x 9, x 10, x 11, x 12, x 13, x 14, x 15, x 16, x 17, x 18, x 19, x 20, x 21, x 22, x 23, x 24, x 25, x 26, x 27, x 28, x 29] := ⟨fun j => T.getD j undef, hT⟩
  clear hT
  cases t1 with
  | lf =>
    obtain rfl := h1
    refine goF ?_
    exact retK1 rfl rfl ⟨by rw [← hf]; rfl, rfl⟩
  | nd l key1 val r h s =>
    obtain ⟨b, pl, pr, rfl, h0, h1, h2, h3, h4, h5, hl, hr⟩ := h1
    by_cases k1 : klt key key1 = true
    · refine goI ?_
      exact ⟨l, by simp [WellFoundedRelation.rel, measure, invImage, InvImage, Tr.dp]; omega, (by first | trivial | rfl), by rw [← hf]; simp only [findT, k1, if_true], pl, _, rfl, rfl, hl⟩
    · have k1 : klt key key1 = false := by simpa using k1
      by_cases k2 : klt key1 key = true
      · refine goI ?_
        exact ⟨r, by simp [WellFoundedRelation.rel, measure, invImage, InvImage, Tr.dp]; omega, (by first | trivial | rfl), by rw [← hf]; simp only [findT, k1, k2, if_true, if_false, Bool.false_eq_true], pr, _, rfl, rfl, hr⟩
      · have k2 : klt key1 key = false := by simpa using k2
        refine goI ?_
        exact retK1 rfl rfl ⟨by rw [← hf]; simp only [findT, k1, k2, if_false, Bool.false_eq_true]; exact ⟨b, pl, pr, rfl, h0, h1, h2, h3, h4, h5, hl, hr⟩, rfl⟩
end Go.Proofs.Ytacfhfeegalmlaa

/- the persistent map, walked in company: level, where the left side is not the taller one. -/
namespace Go.Proofs.Ytacfhfeegalmlaa
open Go.Conc
set_option linter.unusedVariables false
set_option linter.unusedSimpArgs false

set_option maxRecDepth 100000 in
set_option maxHeartbeats 4000000 in
theorem level_right {main : Who} (k : Kn) (pa pb : Option Addr) (l r : Tr) (key : ByteArray) (val : Int) (hl : TrK k.ro (.pointer pa) l) (hr : TrK k.ro (.pointer pb) r) (ol : l.ok) (or : r.ok) (hs : l.sz + r.sz < 1152921504606846976) (c1 : ¬ r.ht + 1 < l.ht) :
    CallsK Try.prog main 58 #[.pointer pa, .string key, .int .i64 val, .pointer pb] k fun v k' => TrK k'.ro v (lvl l key val r) ∧ k.Grow k' := by
  have ol' := ol.le
  have or' := or.le
  have w1 : IntKind.i64.wrap ((r.ht : Int) + 1) = (r.ht : Int) + 1 := wr64 (by omega) (by omega)
  have w2 : IntKind.i64.wrap ((l.ht : Int) + 1) = (l.ht : Int) + 1 := wr64 (by omega) (by omega)
  (refine callsK_of Try.func58 (by first | rfl | kernel_rfl) rfl ?_; simp only [Try.ntmps58, List.size_toArray, List.length_cons, List.length_nil, Nat.reduceAdd, Nat.reduceSub, Array.replicate_succ, Array.replicate_zero, List.push_toArray, List.append_toArray, List.nil_append, List.cons_append])
  refine goF ?_
  refine opsK_callv rfl (by rfl) rfl (by walk_nrm) (tall_k k _ l hl) ?_
  rintro _ _ ⟨rfl, rfl⟩
  walk_nrm
  refine goF ?_
  refine opsK_callv rfl (by rfl) rfl (by walk_nrm) (tall_k k _ r hr) ?_
  rintro _ _ ⟨rfl, rfl⟩
  walk_nrm
  have c1' : ¬ r.ht + 1 < l.ht := c1
  have d1 : decide ((r.ht : Int) + 1 < (l.ht : Int)) = false := by simp; omega
  refine goF ?_
  refine opsK_callv rfl (by rfl) rfl (by first | (walk_nrm; done) | (walk_nrm; rfl)) (tall_k k _ r hr) ?_
  rintro _ _ ⟨rfl, rfl⟩
  walk_nrm
  refine goF ?_
  refine opsK_callv rfl (by rfl) rfl (by first | (walk_nrm; done) | (walk_nrm; rfl)) (tall_k k _ l hl) ?_
  rintro _ _ ⟨rfl, rfl⟩
  walk_nrm
  by_cases c3 : l.ht + 1 < r.ht
  · have d3 : decide ((l.ht : Int) + 1 < (r.ht : Int)) = true := by simp; omega
    cases r with
    | lf => simp [Tr.ht] at c3
    | nd rl rk rv rr rh rs =>
    obtain ⟨b, prl, prr, e, h0, h1, h2, h3, h4, h5, hrl, hrr⟩ := hr
    obtain rfl : pb = some ⟨b, 0, none⟩ := by simpa using e
    obtain ⟨orl, orr, rfl, rfl⟩ := or
    have e1 := orl.le
    have e2 := orr.le
    have hs' : l.sz + (1 + rl.sz + rr.sz) < 1152921504606846976 := hs
    refine goI ?_
    (refine wpK_region_held (fun k' => k.Grow k') (by kernel_rfl) ?_; simp only [List.size_toArray, List.length_cons, List.length_nil, Nat.reduceAdd, Nat.zero_add])
    refine tkI 0 ?_
    refine tkI 1 ?_
    refine tkI 2 ?_
    refine tkI 3 ?_
    (refine takeK_call (i := 4) rfl (by rfl) (by kernel_rfl) (by kernel_rfl) (by kernel_rfl) (by first | assumption | exact Kn.Grow.refl _ | rfl) rfl (by walk_nrm) (fun k' h => tall_k k' _ rr (hrr.mono h.ro)) ?_; try walk_nrm)
    refine tkI 5 ?_
    refine tkI 6 ?_
    refine tkI 7 ?_
    refine tkI 8 ?_
    (refine takeK_call (i := 9) rfl (by rfl) (by kernel_rfl) (by kernel_rfl) (by kernel_rfl) (by first | assumption | exact Kn.Grow.refl _ | rfl) rfl (by walk_nrm) (fun k' h => tall_k k' _ rl (hrl.mono h.ro)) ?_; try walk_nrm)
    by_cases c4 : rl.ht ≤ rr.ht
    · have d4 : decide ((rl.ht : Int) ≤ (rr.ht : Int)) = true := by simp; omega
      have e3 : (bld l key val rl).ht ≤ (bld l key val rl).sz := (bld_ok ol orl key val).le
      have e4 : (bld l key val rl).sz = 1 + l.sz + rl.sz := rfl
      refine tkF 10 ?_
      (refine anyK_done (by kernel_rfl) ?_ _; simp only [thenK, blockK, if_true, if_false, reduceIte, Nat.reduceEqDiff])
      refine goF ?_
      (refine wpK_region_held (fun k' => k.Grow k') (by kernel_rfl) ?_; simp only [List.size_toArray, List.length_cons, List.length_nil, Nat.reduceAdd, Nat.zero_add])
      refine tkI 0 ?_
      refine tkI 1 ?_
      refine tkI 2 ?_
      refine tkI 3 ?_
      refine tkI 4 ?_
      refine tkI 5 ?_
      refine tkI 6 ?_
      refine tkI 8 ?_
      refine tkI 9 ?_
      refine tkI 10 ?_
      refine tkI 11 ?_
      refine tkI 12 ?_
      refine tkI 13 ?_
      refine tkI 14 ?_
      refine tkI 15 ?_
      refine tkI 16 ?_
      refine tkI 17 ?_
      refine tkI 18 ?_
      refine tkI 19 ?_
      refine anyK_call 7 (by kernel_rfl) rfl (by rfl) rfl (by walk_nrm) (build_k k _ _ l rl key val hl hrl (by omega) ol' e1) ?_
      rintro v1 k1 ⟨t1, g1⟩
      obtain ⟨p1, rfl⟩ := t1.ptr
      refine ⟨g1, ?_⟩
      walk_nrm
      refine anyK_call 20 (by kernel_rfl) rfl (by rfl) rfl (by walk_nrm) (build_k k1 _ _ (bld l key val rl) rr rk rv t1 (hrr.mono g1.ro) (by omega) e3 e2) ?_
      rintro v2 k2 ⟨t2, g2⟩
      have g3 := g1.trans g2
      refine ⟨g3, ?_⟩
      walk_nrm
      refine tkF 21 ?_
      (refine anyK_done (by kernel_rfl) ?_ _; simp only [thenK, blockK, if_true, if_false, reduceIte, Nat.reduceEqDiff])
      refine goF ?_
      refine retK1 rfl rfl ⟨?_, g3⟩
      have : lvl l key val (.nd rl rk rv rr (1 + max rl.ht rr.ht) (1 + rl.sz + rr.sz)) = bld (bld l key val rl) rk rv rr := by
        simp only [lvl, c1', c3, c4, if_true, if_false]
      rw [this]
      exact t2
    · have d4 : decide ((rl.ht : Int) ≤ (rr.ht : Int)) = false := by simp; omega
      cases rl with
      | lf => exact absurd (Nat.zero_le _) c4
      | nd tl tk tv tr th ts =>
      obtain ⟨c, ptl, ptr, rfl, i0, i1, i2, i3, i4, i5, htl, htr⟩ := hrl
      obtain ⟨otl, otr, rfl, rfl⟩ := orl
      have e5 := otl.le
      have e6 := otr.le
      have e7 : (Tr.nd tl tk tv tr (1 + max tl.ht tr.ht) (1 + tl.sz + tr.sz)).sz = 1 + tl.sz + tr.sz := rfl
      have e8 : (bld tr rk rv rr).ht ≤ (bld tr rk rv rr).sz := (bld_ok otr orr rk rv).le
      have e9 : (bld tr rk rv rr).sz = 1 + tr.sz + rr.sz := rfl
      have e10 : (bld l key val tl).ht ≤ (bld l key val tl).sz := (bld_ok ol otl key val).le
      have e11 : (bld l key val tl).sz = 1 + l.sz + tl.sz := rfl
      have elv : lvl l key val (.nd (.nd tl tk tv tr (1 + max tl.ht tr.ht) (1 + tl.sz + tr.sz)) rk rv rr (1 + max (Tr.nd tl tk tv tr (1 + max tl.ht tr.ht) (1 + tl.sz + tr.sz)).ht rr.ht) (1 + (Tr.nd tl tk tv tr (1 + max tl.ht tr.ht) (1 + tl.sz + tr.sz)).sz + rr.sz)) = bld (bld l key val tl) tk tv (bld tr rk rv rr) := by
        simp only [lvl, c1', c3, c4, if_true, if_false]
      refine tkF 10 ?_
      (refine anyK_done (by kernel_rfl) ?_ _; simp only [thenK, blockK, if_true, if_false, reduceIte, Nat.reduceEqDiff])
      refine goI ?_
      (refine wpK_region_held (fun k' => k.Grow k') (by kernel_rfl) ?_; simp only [List.size_toArray, List.length_cons, List.length_nil, Nat.reduceAdd, Nat.zero_add])
      refine tkI 0 ?_
      refine tkI 1 ?_
      refine tkI 2 ?_
      refine tkI 3 ?_
      refine tkI 4 ?_
      refine tkI 5 ?_
      refine tkI 6 ?_
      refine tkI 8 ?_
      refine tkI 9 ?_
      refine tkI 10 ?_
      refine tkI 11 ?_
      refine tkI 12 ?_
      refine tkI 13 ?_
      refine tkI 14 ?_
      refine tkI 15 ?_
      refine tkI 16 ?_
      refine tkI 17 ?_
      refine tkI 18 ?_
      refine tkI 19 ?_
      refine tkI 20 ?_
      refine tkI 21 ?_
      refine tkI 22 ?_
      refine tkI 23 ?_
      refine tkI 24 ?_
      refine tkI 25 ?_
      refine tkI 26 ?_
      refine tkI 27 ?_
      refine tkI 28 ?_
      refine tkI 29 ?_
      refine tkI 30 ?_
      refine tkI 31 ?_
      refine anyK_call 7 (by kernel_rfl) rfl (by rfl) rfl (by walk_nrm) (build_k k _ _ l tl key val hl htl (by omega) ol' e5) ?_
      rintro v1 k1 ⟨t1, g1⟩
      obtain ⟨p1, rfl⟩ := t1.ptr
      refine ⟨g1, ?_⟩
      walk_nrm
      refine anyK_call 32 (by kernel_rfl) rfl (by rfl) rfl (by walk_nrm) (build_k k1 _ _ tr rr rk rv (htr.mono g1.ro) (hrr.mono g1.ro) (by omega) e6 e2) ?_
      rintro v2 k2 ⟨t2, g2'⟩
      obtain ⟨p2, rfl⟩ := t2.ptr
      have g2 := g1.trans g2'
      refine ⟨g2, ?_⟩
      walk_nrm
      refine anyK_call 33 (by kernel_rfl) rfl (by rfl) rfl (by walk_nrm) (build_k k2 _ _ (bld l key val tl) (bld tr rk rv rr) tk tv (t1.mono g2'.ro) t2 (by omega) e10 e8) ?_
      rintro v3 k3 ⟨t3, g3⟩
      have g4 := g2.trans g3
      refine ⟨g4, ?_⟩
      walk_nrm
      refine tkF 34 ?_
      (refine anyK_done (by kernel_rfl) ?_ _; simp only [thenK, blockK, if_true, if_false, reduceIte, Nat.reduceEqDiff])
      refine goF ?_
      refine retK1 rfl rfl ⟨?_, g4⟩
      rw [elv]
      exact t3
  · have d3 : decide ((l.ht : Int) + 1 < (r.ht : Int)) = false := by simp; omega
    refine goF ?_
    refine opsK_callv rfl (by rfl) rfl (by first | (walk_nrm; done) | (walk_nrm; rfl)) (build_k k _ _ l r key val hl hr (by omega) ol' or') ?_
    rintro v1 k1 ⟨t1, g1⟩
    walk_nrm
    refine goF ?_
    refine retK1 rfl rfl ⟨?_, g1⟩
    have : lvl l key val r = bld l key val r := by simp only [lvl, c1', c3, if_false]
    rw [this]
    exact t1
end Go.Proofs.Ytacfhfeegalmlaa

/- the persistent map, walked in company: level. -/
namespace Go.Proofs.Ytacfhfeegalmlaa
open Go.Conc
set_option linter.unusedVariables false
set_option linter.unusedSimpArgs false

set_option maxRecDepth 100000 in
set_option maxHeartbeats 4000000 in
theorem level_k {main : Who} (k : Kn) (pl pr : Value) (l r : Tr) (key : ByteArray) (val : Int) (hl : TrK k.ro pl l) (hr : TrK k.ro pr r) (ol : l.ok) (or : r.ok) (hs : l.sz + r.sz < 1152921504606846976) :
    CallsK Try.prog main 58 #[pl, .string key, .int .i64 val, pr] k fun v k' => TrK k'.ro v (lvl l key val r) ∧ k.Grow k' := by
  have ol' := ol.le
  have or' := or.le
  have w1 : IntKind.i64.wrap ((r.ht : Int) + 1) = (r.ht : Int) + 1 := wr64 (by omega) (by omega)
  have w2 : IntKind.i64.wrap ((l.ht : Int) + 1) = (l.ht : Int) + 1 := wr64 (by omega) (by omega)
  obtain ⟨pa, rfl⟩ := hl.ptr
  obtain ⟨pb, rfl⟩ := hr.ptr
  by_cases c1 : r.ht + 1 < l.ht
  case neg => exact level_right k pa pb l r key val hl hr ol or hs c1
  (refine callsK_of Try.func58 (by first | rfl | kernel_rfl) rfl ?_; simp only [Try.ntmps58, List.size_toArray, List.length_cons, List.length_nil, Nat.reduceAdd, Nat.reduceSub, Array.replicate_succ, Array.replicate_zero, List.push_toArray, List.append_toArray, List.nil_append, List.cons_append])
  refine goF ?_
  refine opsK_callv rfl (by rfl) rfl (by walk_nrm) (tall_k k _ l hl) ?_
  rintro _ _ ⟨rfl, rfl⟩
  walk_nrm
  refine goF ?_
  refine opsK_callv rfl (by rfl) rfl (by walk_nrm) (tall_k k _ r hr) ?_
  rintro _ _ ⟨rfl, rfl⟩
  walk_nrm
  · have d1 : decide ((r.ht : Int) + 1 < (l.ht : Int)) = true := by simp; omega
    cases l with
    | lf => simp [Tr.ht] at c1
    | nd ll lk lv lr lh ls =>
    obtain ⟨b, pll, plr, e, h0, h1, h2, h3, h4, h5, hll, hlr⟩ := hl
    obtain rfl : pa = some ⟨b, 0, none⟩ := by simpa using e
    obtain ⟨oll, olr, rfl, rfl⟩ := ol
    have e1 := oll.le
    have e2 := olr.le
    have hs' : 1 + ll.sz + lr.sz + r.sz < 1152921504606846976 := hs
    refine goI ?_
    (refine wpK_region_held (fun k' => k.Grow k') (by kernel_rfl) ?_; simp only [List.size_toArray, List.length_cons, List.length_nil, Nat.reduceAdd, Nat.zero_add])
    refine tkI 0 ?_
    refine tkI 1 ?_
    refine tkI 2 ?_
    refine tkI 3 ?_
    (refine takeK_call (i := 4) rfl (by rfl) (by kernel_rfl) (by kernel_rfl) (by kernel_rfl) (by first | assumption | exact Kn.Grow.refl _ | rfl) rfl (by walk_nrm) (fun k' h => tall_k k' _ ll (hll.mono h.ro)) ?_; try walk_nrm)
    refine tkI 5 ?_
    refine tkI 6 ?_
    refine tkI 7 ?_
    refine tkI 8 ?_
    (refine takeK_call (i := 9) rfl (by rfl) (by kernel_rfl) (by kernel_rfl) (by kernel_rfl) (by first | assumption | exact Kn.Grow.refl _ | rfl) rfl (by walk_nrm) (fun k' h => tall_k k' _ lr (hlr.mono h.ro)) ?_; try walk_nrm)
    by_cases c2 : lr.ht ≤ ll.ht
    · have d2 : decide ((lr.ht : Int) ≤ (ll.ht : Int)) = true := by simp; omega
      refine tkF 10 ?_
      (refine anyK_done (by kernel_rfl) ?_ _; simp only [thenK, blockK, if_true, if_false, reduceIte, Nat.reduceEqDiff])
      refine goF ?_
      (refine wpK_region_held (fun k' => k.Grow k') (by kernel_rfl) ?_; simp only [List.size_toArray, List.length_cons, List.length_nil, Nat.reduceAdd, Nat.zero_add])
      refine tkI 0 ?_
      refine tkI 1 ?_
      refine tkI 2 ?_
      refine tkI 3 ?_
      refine tkI 4 ?_
      refine tkI 5 ?_
      refine tkI 6 ?_
      refine tkI 7 ?_
      refine tkI 8 ?_
      refine tkI 9 ?_
      refine tkI 10 ?_
      refine tkI 11 ?_
      refine tkI 12 ?_
      refine tkI 13 ?_
      refine tkI 14 ?_
      refine tkI 15 ?_
      refine tkI 16 ?_
      refine tkI 17 ?_
      refine tkI 18 ?_
      refine anyK_call 19 (by kernel_rfl) rfl (by rfl) rfl (by walk_nrm) (build_k k _ _ lr r key val hlr hr (by omega) e2 or')  ?_
      rintro v1 k1 ⟨t1, g1⟩
      obtain ⟨p1, rfl⟩ := t1.ptr
      refine ⟨g1, ?_⟩
      walk_nrm
      have e3 : (bld lr key val r).ht ≤ (bld lr key val r).sz := (bld_ok olr or key val).le
      have e4 : (bld lr key val r).sz = 1 + lr.sz + r.sz := rfl
      refine anyK_call 20 (by kernel_rfl) rfl (by rfl) rfl (by walk_nrm) (build_k k1 _ _ ll (bld lr key val r) lk lv (hll.mono g1.ro) t1 (by omega) e1 e3) ?_
      rintro v2 k2 ⟨t2, g2⟩
      have g3 := g1.trans g2
      refine ⟨g3, ?_⟩
      walk_nrm
      refine tkF 21 ?_
      (refine anyK_done (by kernel_rfl) ?_ _; simp only [thenK, blockK, if_true, if_false, reduceIte, Nat.reduceEqDiff])
      refine goF ?_
      refine retK1 rfl rfl ⟨?_, g3⟩
      have : lvl (.nd ll lk lv lr (1 + max ll.ht lr.ht) (1 + ll.sz + lr.sz)) key val r = bld ll lk lv (bld lr key val r) := by
        simp only [lvl, c1, c2, if_true]
      rw [this]
      exact t2
    · have d2 : decide ((lr.ht : Int) ≤ (ll.ht : Int)) = false := by simp; omega
      cases lr with
      | lf => exact absurd (Nat.zero_le _) c2
      | nd tl tk tv tr th ts =>
      obtain ⟨c, ptl, ptr, rfl, i0, i1, i2, i3, i4, i5, htl, htr⟩ := hlr
      obtain ⟨otl, otr, rfl, rfl⟩ := olr
      have e5 := otl.le
      have e6 := otr.le
      have e7 : (Tr.nd tl tk tv tr (1 + max tl.ht tr.ht) (1 + tl.sz + tr.sz)).sz = 1 + tl.sz + tr.sz := rfl
      have e8 : (bld tr key val r).ht ≤ (bld tr key val r).sz := (bld_ok otr or key val).le
      have e9 : (bld tr key val r).sz = 1 + tr.sz + r.sz := rfl
      have e10 : (bld ll lk lv tl).ht ≤ (bld ll lk lv tl).sz := (bld_ok oll otl lk lv).le
      have e11 : (bld ll lk lv tl).sz = 1 + ll.sz + tl.sz := rfl
      have elv : lvl (.nd ll lk lv (.nd tl tk tv tr (1 + max tl.ht tr.ht) (1 + tl.sz + tr.sz)) (1 + max ll.ht (Tr.nd tl tk tv tr (1 + max tl.ht tr.ht) (1 + tl.sz + tr.sz)).ht) (1 + ll.sz + (Tr.nd tl tk tv tr (1 + max tl.ht tr.ht) (1 + tl.sz + tr.sz)).sz)) key val r = bld (bld ll lk lv tl) tk tv (bld tr key val r) := by
        simp only [lvl, c1, c2, if_true, if_false]
      refine tkF 10 ?_
      (refine anyK_done (by kernel_rfl) ?_ _; simp only [thenK, blockK, if_true, if_false, reduceIte, Nat.reduceEqDiff])
      refine goI ?_
      (refine wpK_region_held (fun k' => k.Grow k') (by kernel_rfl) ?_; simp only [List.size_toArray, List.length_cons, List.length_nil, Nat.reduceAdd, Nat.zero_add])
      refine tkI 0 ?_
      refine tkI 1 ?_
      refine tkI 2 ?_
      refine tkI 3 ?_
      refine tkI 4 ?_
      refine tkI 5 ?_
      refine tkI 6 ?_
      refine tkI 7 ?_
      refine tkI 8 ?_
      refine tkI 9 ?_
      refine tkI 10 ?_
      refine tkI 11 ?_
      refine tkI 12 ?_
      refine tkI 13 ?_
      refine tkI 14 ?_
      refine tkI 15 ?_
      refine tkI 17 ?_
      refine tkI 18 ?_
      refine tkI 19 ?_
      refine tkI 20 ?_
      refine tkI 21 ?_
      refine tkI 22 ?_
      refine tkI 23 ?_
      refine tkI 24 ?_
      refine tkI 25 ?_
      refine tkI 26 ?_
      refine tkI 27 ?_
      refine tkI 28 ?_
      refine tkI 29 ?_
      refine tkI 30 ?_
      refine tkI 31 ?_
      refine anyK_call 16 (by kernel_rfl) rfl (by rfl) rfl (by walk_nrm) (build_k k _ _ ll tl lk lv hll htl (by omega) e1 e5) ?_
      rintro v1 k1 ⟨t1, g1⟩
      obtain ⟨p1, rfl⟩ := t1.ptr
      refine ⟨g1, ?_⟩
      walk_nrm
      refine anyK_call 32 (by kernel_rfl) rfl (by rfl) rfl (by walk_nrm) (build_k k1 _ _ tr r key val (htr.mono g1.ro) (hr.mono g1.ro) (by omega) e6 or') ?_
      rintro v2 k2 ⟨t2, g2'⟩
      obtain ⟨p2, rfl⟩ := t2.ptr
      have g2 := g1.trans g2'
      refine ⟨g2, ?_⟩
      walk_nrm
      refine anyK_call 33 (by kernel_rfl) rfl (by rfl) rfl (by walk_nrm) (build_k k2 _ _ (bld ll lk lv tl) (bld tr key val r) tk tv (t1.mono g2'.ro) t2 (by omega) e10 e8) ?_
      rintro v3 k3 ⟨t3, g3⟩
      have g4 := g2.trans g3
      refine ⟨g4, ?_⟩
      walk_nrm
      refine tkF 34 ?_
      (refine anyK_done (by kernel_rfl) ?_ _; simp only [thenK, blockK, if_true, if_false, reduceIte, Nat.reduceEqDiff])
      refine goF ?_
      refine retK1 rfl rfl ⟨?_, g4⟩
      rw [elv]
      exact t3
end Go.Proofs.Ytacfhfeegalmlaa

/- the persistent map, walked in company: put. -/
namespace Go.Proofs.Ytacfhfeegalmlaa
open Go.Conc
set_option linter.unusedVariables false
set_option linter.unusedSimpArgs false

theorem lvl_sz {l r : Tr} (hl : l.ok) (hr : r.ok) (k v) : (lvl l k v r).sz = 1 + l.sz + r.sz := by
  rw [(lvl_ok hl hr k v).size, lvl_ents, hl.size, hr.size]
  simp
  omega
theorem putT_sz (k : ByteArray) (v : Int) : ∀ {t : Tr}, t.ok → (putT t k v).sz ≤ t.sz + 1
  | .lf, _ => by simp [putT, bld, Tr.sz]
  | .nd l k' v' r h s, ⟨hl, hr, e1, e2⟩ => by
    have h1 := putT_sz k v hl
    have h2 := putT_sz k v hr
    have e3 : (Tr.nd l k' v' r h s).sz = s := rfl
    rw [e3, e2]
    unfold putT
    split
    · rw [lvl_sz (putT_ok hl k v) hr]; omega
    · split
      · rw [lvl_sz hl (putT_ok hr k v)]; omega
      · show 1 + l.sz + r.sz ≤ _; omega
set_option maxRecDepth 100000 in
set_option maxHeartbeats 4000000 in
theorem put_k {main : Who} (key : ByteArray) (val : Int) : ∀ (t : Tr) (k : Kn) (p : Value), TrK k.ro p t → t.ok → t.sz < 288230376151711744 →
    CallsK Try.prog main 32 #[p, .string key, .int .i64 val] k fun v k' => TrK k'.ro v (putT t key val) ∧ k.Grow k' := by
  intro t
  induction t with
  | lf =>
    intro k p h o hs
    obtain rfl := h
    (refine callsK_of Try.func32 (by first | rfl | kernel_rfl) rfl ?_; simp only [Try.ntmps32, List.size_toArray, List.length_cons, List.length_nil, Nat.reduceAdd, Nat.reduceSub, Array.replicate_succ, Array.replicate_zero, List.push_toArray, List.append_toArray, List.nil_append, List.cons_append])
    refine goF ?_
    refine opsK_callv rfl (by rfl) rfl (by first | (walk_nrm; done) | (walk_nrm; rfl)) (build_k k _ _ .lf .lf key val rfl rfl (by decide) (by decide) (by decide)) ?_
    rintro v1 k1 ⟨t1, g1⟩
    walk_nrm
    refine goF ?_
    exact retK1 rfl rfl ⟨t1, g1⟩
  | nd l key1 v r h s ihl ihr =>
    intro k p hh o hs
    obtain ⟨b, pl, pr, rfl, h0, h1, h2, h3, h4, h5, hl, hr⟩ := hh
    obtain ⟨ol, or, rfl, rfl⟩ := o
    obtain ⟨pa, rfl⟩ := hl.ptr
    obtain ⟨pb, rfl⟩ := hr.ptr
    have hs' : 1 + l.sz + r.sz < 288230376151711744 := hs
    (refine callsK_of Try.func32 (by first | rfl | kernel_rfl) rfl ?_; simp only [Try.ntmps32, List.size_toArray, List.length_cons, List.length_nil, Nat.reduceAdd, Nat.reduceSub, Array.replicate_succ, Array.replicate_zero, List.push_toArray, List.append_toArray, List.nil_append, List.cons_append])
    by_cases c1 : klt key key1 = true
    · refine goI ?_
      (refine wpK_region_held (fun k' => k.Grow k') (by kernel_rfl) ?_; simp only [List.size_toArray, List.length_cons, List.length_nil, Nat.reduceAdd, Nat.zero_add])
      refine tkI 0 ?_
      refine tkI 1 ?_
      refine tkI 2 ?_
      refine tkI 3 ?_
      refine tkI 4 ?_
      refine tkI 5 ?_
      refine tkI 7 ?_
      refine tkI 8 ?_
      refine tkI 9 ?_
      refine tkI 10 ?_
      refine tkI 11 ?_
      refine tkI 12 ?_
      refine tkI 13 ?_
      refine tkI 14 ?_
      refine tkI 15 ?_
      refine tkI 16 ?_
      refine tkI 17 ?_
      refine tkI 18 ?_
      refine anyK_call 6 (by kernel_rfl) rfl (by rfl) rfl (by walk_nrm) (ihl k _ hl ol (by omega)) ?_
      rintro v1 k1 ⟨t1, g1⟩
      obtain ⟨p1, rfl⟩ := t1.ptr
      refine ⟨g1, ?_⟩
      walk_nrm
      have e1 := putT_sz key val ol
      refine anyK_call 19 (by kernel_rfl) rfl (by rfl) rfl (by walk_nrm) (level_k k1 _ _ (putT l key val) r key1 v t1 (hr.mono g1.ro) (putT_ok ol key val) or (by omega)) ?_
      rintro v2 k2 ⟨t2, g2⟩
      have g3 := g1.trans g2
      refine ⟨g3, ?_⟩
      walk_nrm
      refine tkF 20 ?_
      (refine anyK_done (by kernel_rfl) ?_ _; simp only [thenK, blockK, if_true, if_false, reduceIte, Nat.reduceEqDiff])
      refine goF ?_
      refine retK1 rfl rfl ⟨?_, g3⟩
      simp only [putT, c1, if_true]
      exact t2
    · have c1 : klt key key1 = false := by simpa using c1
      by_cases c2 : klt key1 key = true
      · refine goI ?_
        (refine wpK_region_held (fun k' => k.Grow k') (by kernel_rfl) ?_; simp only [List.size_toArray, List.length_cons, List.length_nil, Nat.reduceAdd, Nat.zero_add])
        refine tkI 0 ?_
        refine tkI 1 ?_
        refine tkI 2 ?_
        refine tkI 3 ?_
        refine tkI 4 ?_
        refine tkI 5 ?_
        refine tkI 6 ?_
        refine tkI 7 ?_
        refine tkI 8 ?_
        refine tkI 9 ?_
        refine tkI 10 ?_
        refine tkI 11 ?_
        refine tkI 12 ?_
        refine tkI 13 ?_
        refine tkI 14 ?_
        refine tkI 15 ?_
        refine tkI 16 ?_
        refine tkI 17 ?_
        refine anyK_call 18 (by kernel_rfl) rfl (by rfl) rfl (by walk_nrm) (ihr k _ hr or (by omega)) ?_
        rintro v1 k1 ⟨t1, g1⟩
        obtain ⟨p1, rfl⟩ := t1.ptr
        refine ⟨g1, ?_⟩
        walk_nrm
        have e1 := putT_sz key val or
        refine anyK_call 19 (by kernel_rfl) rfl (by rfl) rfl (by walk_nrm) (level_k k1 _ _ l (putT r key val) key1 v (hl.mono g1.ro) t1 ol (putT_ok or key val) (by omega)) ?_
        rintro v2 k2 ⟨t2, g2⟩
        have g3 := g1.trans g2
        refine ⟨g3, ?_⟩
        walk_nrm
        refine tkF 20 ?_
        (refine anyK_done (by kernel_rfl) ?_ _; simp only [thenK, blockK, if_true, if_false, reduceIte, Nat.reduceEqDiff])
        refine goF ?_
        refine retK1 rfl rfl ⟨?_, g3⟩
        simp only [putT, c1, c2, if_true, if_false, Bool.false_eq_true]
        exact t2
      · have c2 : klt key1 key = false := by simpa using c2
        refine goI ?_
        (refine wpK_region_held (fun k' => k.Grow k') (by kernel_rfl) ?_; simp only [List.size_toArray, List.length_cons, List.length_nil, Nat.reduceAdd, Nat.zero_add])
        refine tkI 0 ?_
        refine tkI 1 ?_
        refine tkI 2 ?_
        refine tkI 3 ?_
        refine tkI 4 ?_
        refine tkI 5 ?_
        refine tkI 6 ?_
        refine tkI 7 ?_
        refine tkI 8 ?_
        refine tkI 9 ?_
        refine anyK_call 10 (by kernel_rfl) rfl (by rfl) rfl (by walk_nrm) (build_k k _ _ l r key val hl hr (by omega) ol.le or.le) ?_
        rintro v1 k1 ⟨t1, g1⟩
        refine ⟨g1, ?_⟩
        walk_nrm
        refine tkF 11 ?_
        (refine anyK_done (by kernel_rfl) ?_ _; simp only [thenK, blockK, if_true, if_false, reduceIte, Nat.reduceEqDiff])
        refine goF ?_
        refine retK1 rfl rfl ⟨?_, g1⟩
        simp only [putT, c1, c2, if_false, Bool.false_eq_true]
        exact t1
end Go.Proofs.Ytacfhfeegalmlaa

/- the persistent map, walked in company: Get. -/
namespace Go.Proofs.Ytacfhfeegalmlaa
open Go.Conc
set_option linter.unusedVariables false
set_option linter.unusedSimpArgs false

/-- what Get returns -/
def getV (t : Tr) (key : ByteArray) : Value := match getT t key with
  | some v => .tuple #[.int .i64 v, .bool true]
  | none => .tuple #[.int .i64 0, .bool false]
set_option maxRecDepth 100000 in
theorem get_k {main : Who} (key : ByteArray) (t : Tr) (k : Kn) (p : Value) (h : TrK k.ro p t) :
    CallsK Try.prog main 16 #[.agg #[p], .string key] k fun v k' => v = getV t key ∧ k.Grow k' := by
  obtain ⟨pa, rfl⟩ := h.ptr
  (refine callsK_of Try.func16 (by first | rfl | kernel_rfl) rfl ?_; simp only [Try.ntmps16, List.size_toArray, List.length_cons, List.length_nil, Nat.reduceAdd, Nat.reduceSub, Array.replicate_succ, Array.replicate_zero, List.push_toArray, List.append_toArray, List.nil_append, List.cons_append])
  (first | apply wpK_seq | apply wpK_block | apply wpK_skip | apply wpK_label | apply wpK_ret | apply wpK_exit | apply opsK_nil)
  (apply wpK_region; simp only [List.size_toArray, List.length_cons, List.length_nil, Nat.reduceAdd, Nat.zero_add, List.range, List.range.loop])
  refine opsK_boxRo rfl (by rfl) rfl rfl ?_
  intro b hb
  have g := hb.grow #[.pointer pa]
  have h0 : (k.lay b #[.pointer pa]).ro ⟨b, 0, none⟩ = some (.pointer pa) := Kn.lay_at _ _ _ _
  walk_nrm
  repeat (first | (apply wpK_region; simp only [List.size_toArray, List.length_cons, List.length_nil, Nat.reduceAdd, Nat.zero_add, List.range, List.range.loop]) | ((first | refine opsK_max rfl (by rfl) rfl rfl rfl ?_ | refine opsK_eqNil rfl (by rfl) rfl rfl (by kernel_rfl) ?_ | refine opsK_neNil rfl (by rfl) rfl rfl (by kernel_rfl) ?_); try simp only [Option.isNone_none, Option.isNone_some, Bool.not_true, Bool.not_false]; try walk_nrm) | (co_applyP opsK_pure_k rfl (by rfl) ?_ ?_ ?_; (focus (intro _ K hK; go_simp; exact hK)); (focus (first | (exact fun _ => ev_int rfl rfl rfl rfl) | (exact fun _ => ev_str rfl rfl rfl) | (exact fun _ => ev_build rfl) | (exact fun _ => ev_lenS rfl rfl) | (exact fun _ => ev_lenL rfl rfl) | (exact fun _ => ev_mkI rfl) | (intro _; simp [go_sem, *]; done))); try walk_nrm) | (co_applyP opsK_load1 rfl (by rfl) rfl rfl ?_ ?_ ?_; (focus (intro _; go_simp)); (focus (exact .inl h0)); try walk_nrm) | ((first | apply wpK_seq | apply wpK_block | apply wpK_skip | apply wpK_label | apply wpK_ret | apply wpK_exit | apply opsK_nil); try simp only [thenK, blockK, if_true, if_false, reduceIte, Nat.reduceEqDiff]) | (refine wpK_cond rfl ?_; simp only [if_true, if_false, reduceIte, Bool.false_eq_true]) | (refine opsK_unwanted rfl (by rfl) ?_; try walk_nrm))
  refine opsK_callv rfl (by rfl) rfl (by first | (walk_nrm; done) | (walk_nrm; rfl)) (find_k key _ t _ (h.mono g.ro)) ?_
  rintro v1 _ ⟨t1, rfl⟩
  walk_nrm
  refine opsK_callv rfl (by rfl) rfl (by first | (walk_nrm; done) | (walk_nrm; rfl)) (entry_k _ _ _ t1) ?_
  rintro _ _ ⟨rfl, rfl⟩
  walk_nrm
  have e : getV t key = getV t key := rfl
  cases hf : findT t key with
  | lf =>
    simp only [entV]
    refine goF ?_
    refine retK2 rfl rfl ⟨?_, g⟩
    simp only [getV, getT, hf]; rfl
  | nd l k1 v r hh s =>
    simp only [entV]
    refine goF ?_
    refine retK2 rfl rfl ⟨?_, g⟩
    simp only [getV, getT, hf]; rfl
end Go.Proofs.Ytacfhfeegalmlaa
