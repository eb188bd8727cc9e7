/-
  Joined texts: THE SESSION, in company: the box's list. · THE LAW's small functions, in company: boxes, Num, IDs. · sync.WaitGroup's Add(1), in company, at a WaitGroup of one's own. · THE PLAIN LAW OF A LIST OF JOBS, and what stands where while they are run. · New views of what one knows; finish, in company.
-/
import Derived.Test.YtacfhfeegalmlaaWW6
import Derived.Test.YtacfhfeegalmlaaWW8
import Derived.Conc.WgArith

/- THE SESSION, in company: the box's list. -/
namespace Go.Proofs.Ytacfhfeegalmlaa
open Go.Conc
set_option linter.unusedVariables false
set_option linter.unusedSimpArgs false

def yV (l : Nat) : Value := .func (.yield l) #[] #[]
set_option maxRecDepth 100000 in
set_option maxHeartbeats 4000000 in
theorem each_k {main : Who} (l : Nat) (J : Ents → Kn → Prop) (ro0 : Addr → Option Value) (hJ : ∀ E k, J E k → ∀ a v, ro0 a = some v → k.ro a = some v)
    (N : Nat) (hy : ∀ E k (x : ByteArray × Int), E.length < N → J E k → Does Try.prog main 55 (Instr.yield l #[.string x.1, .int .i64 x.2]) k fun v k' => v = .bool true ∧ J (E ++ [x]) k') :
    ∀ (t : Tr) (p : Value) (E : Ents) (k : Kn), E.length + t.ents.length ≤ N → TrK ro0 p t → J E k → CallsK Try.prog main 55 #[p, yV l] k fun v k' => v = .bool true ∧ J (E ++ t.ents) k' := by
  intro t
  induction t with
  | lf =>
    intro p E k hN h hj
    obtain rfl := h
    (refine callsK_of Try.func55 (by first | rfl | kernel_rfl) rfl ?_; simp only [Try.ntmps55, List.size_toArray, List.length_cons, List.length_nil, Nat.reduceAdd, Nat.reduceSub, Array.replicate_succ, Array.replicate_zero, List.push_toArray, List.append_toArray, List.nil_append, List.cons_append])
    refine goF ?_
    have sK : k.Grow k := Kn.Grow.refl _
    (refine wpK_region_held (fun k' => k.Grow k') (by kernel_rfl) ?_; simp only [List.size_toArray, List.length_cons, List.length_nil, Nat.reduceAdd, Nat.zero_add])
    refine tkF 0 ?_
    refine tkF 1 ?_
    refine tkF 2 ?_
    refine tkF 3 ?_
    refine tkF 4 ?_
    refine tkF 5 ?_
    refine tkF 6 ?_
    refine tkF 7 ?_
    refine tkF 8 ?_
    refine tkF 9 ?_
    refine tkF 10 ?_
    refine tkF 11 ?_
    refine tkF 12 ?_
    refine tkF 13 ?_
    refine tkF 14 ?_
    refine tkF 15 ?_
    refine tkF 16 ?_
    refine tkF 17 ?_
    refine tkF 18 ?_
    refine tkF 19 ?_
    refine tkF 20 ?_
    refine tkF 21 ?_
    refine tkF 22 ?_
    refine tkF 23 ?_
    refine tkF 24 ?_
    refine tkF 25 ?_
    refine tkF 26 ?_
    refine tkF 27 ?_
    refine tkF 28 ?_
    refine tkF 29 ?_
    refine tkF 30 ?_
    (refine anyK_done (by kernel_rfl) ?_ _; simp only [thenK, blockK, if_true, if_false, reduceIte, Nat.reduceEqDiff])
    refine goF ?_
    exact retK1 rfl rfl ⟨rfl, by simpa [Tr.ents] using hj⟩
  | nd lt key val rt h s ihl ihr =>
    intro p E k hN hh hj
    simp only [Tr.ents, List.length_append, List.length_cons] at hN
    obtain ⟨b, pl, pr, rfl, h0, h1, h2, h3, h4, h5, hl, hr⟩ := hh
    obtain ⟨pa, rfl⟩ := hl.ptr
    obtain ⟨pb, rfl⟩ := hr.ptr
    (refine callsK_of Try.func55 (by first | rfl | kernel_rfl) rfl ?_; simp only [Try.ntmps55, List.size_toArray, List.length_cons, List.length_nil, Nat.reduceAdd, Nat.reduceSub, Array.replicate_succ, Array.replicate_zero, List.push_toArray, List.append_toArray, List.nil_append, List.cons_append])
    refine goF ?_
    have sK : ∃ E, J E k := ⟨E, hj⟩
    (refine wpK_region_held (fun k' => ∃ E, J E k') (by kernel_rfl) ?_; simp only [List.size_toArray, List.length_cons, List.length_nil, Nat.reduceAdd, Nat.zero_add])
    (first | (refine takeK_nil (i := 0) rfl (by rfl) (by kernel_rfl) (by kernel_rfl) (by kernel_rfl) (by first | assumption | exact Kn.Grow.refl _ | rfl) rfl rfl (by kernel_rfl) ?_; try simp only [Option.isNone_none, Option.isNone_some]; try walk_nrm) | (co_applyP takeK_pure (i := 0) rfl (by rfl) (by kernel_rfl) (by kernel_rfl) (by kernel_rfl) (by first | assumption | exact Kn.Grow.refl _ | rfl) ?_ ?_ ?_; (focus (intro _ K hK; go_simp; exact hK)); (focus (first | (exact fun _ => ev_int rfl rfl rfl rfl) | (exact fun _ => ev_str rfl rfl rfl) | (exact fun _ => ev_build rfl) | (exact fun _ => ev_lenS rfl rfl) | (exact fun _ => ev_lenL rfl rfl) | (exact fun _ => ev_mkI rfl) | (intro _; simp [go_sem, *]; done))); try walk_nrm) | (co_applyP takeK_load1 (i := 0) rfl (by rfl) (by kernel_rfl) (by kernel_rfl) (by kernel_rfl) (by first | assumption | exact Kn.Grow.refl _ | rfl) rfl rfl ?_ ?_ ?_; (focus (intro _; go_simp)); (focus (exact fun k' ⟨E, h⟩ => .inl (hJ E k' h _ _ (by assumption)))); try walk_nrm) | (refine takeK_un (i := 0) rfl (by rfl) (by kernel_rfl) (by kernel_rfl) (by kernel_rfl) (by first | assumption | exact Kn.Grow.refl _ | rfl) ?_; try walk_nrm))
    (first | (refine takeK_nil (i := 1) rfl (by rfl) (by kernel_rfl) (by kernel_rfl) (by kernel_rfl) (by first | assumption | exact Kn.Grow.refl _ | rfl) rfl rfl (by kernel_rfl) ?_; try simp only [Option.isNone_none, Option.isNone_some]; try walk_nrm) | (co_applyP takeK_pure (i := 1) rfl (by rfl) (by kernel_rfl) (by kernel_rfl) (by kernel_rfl) (by first | assumption | exact Kn.Grow.refl _ | rfl) ?_ ?_ ?_; (focus (intro _ K hK; go_simp; exact hK)); (focus (first | (exact fun _ => ev_int rfl rfl rfl rfl) | (exact fun _ => ev_str rfl rfl rfl) | (exact fun _ => ev_build rfl) | (exact fun _ => ev_lenS rfl rfl) | (exact fun _ => ev_lenL rfl rfl) | (exact fun _ => ev_mkI rfl) | (intro _; simp [go_sem, *]; done))); try walk_nrm) | (co_applyP takeK_load1 (i := 1) rfl (by rfl) (by kernel_rfl) (by kernel_rfl) (by kernel_rfl) (by first | assumption | exact Kn.Grow.refl _ | rfl) rfl rfl ?_ ?_ ?_; (focus (intro _; go_simp)); (focus (exact fun k' ⟨E, h⟩ => .inl (hJ E k' h _ _ (by assumption)))); try walk_nrm) | (refine takeK_un (i := 1) rfl (by rfl) (by kernel_rfl) (by kernel_rfl) (by kernel_rfl) (by first | assumption | exact Kn.Grow.refl _ | rfl) ?_; try walk_nrm))
    (first | (refine takeK_nil (i := 2) rfl (by rfl) (by kernel_rfl) (by kernel_rfl) (by kernel_rfl) (by first | assumption | exact Kn.Grow.refl _ | rfl) rfl rfl (by kernel_rfl) ?_; try simp only [Option.isNone_none, Option.isNone_some]; try walk_nrm) | (co_applyP takeK_pure (i := 2) rfl (by rfl) (by kernel_rfl) (by kernel_rfl) (by kernel_rfl) (by first | assumption | exact Kn.Grow.refl _ | rfl) ?_ ?_ ?_; (focus (intro _ K hK; go_simp; exact hK)); (focus (first | (exact fun _ => ev_int rfl rfl rfl rfl) | (exact fun _ => ev_str rfl rfl rfl) | (exact fun _ => ev_build rfl) | (exact fun _ => ev_lenS rfl rfl) | (exact fun _ => ev_lenL rfl rfl) | (exact fun _ => ev_mkI rfl) | (intro _; simp [go_sem, *]; done))); try walk_nrm) | (co_applyP takeK_load1 (i := 2) rfl (by rfl) (by kernel_rfl) (by kernel_rfl) (by kernel_rfl) (by first | assumption | exact Kn.Grow.refl _ | rfl) rfl rfl ?_ ?_ ?_; (focus (intro _; go_simp)); (focus (exact fun k' ⟨E, h⟩ => .inl (hJ E k' h _ _ (by assumption)))); try walk_nrm) | (refine takeK_un (i := 2) rfl (by rfl) (by kernel_rfl) (by kernel_rfl) (by kernel_rfl) (by first | assumption | exact Kn.Grow.refl _ | rfl) ?_; try walk_nrm))
    (first | (refine takeK_nil (i := 3) rfl (by rfl) (by kernel_rfl) (by kernel_rfl) (by kernel_rfl) (by first | assumption | exact Kn.Grow.refl _ | rfl) rfl rfl (by kernel_rfl) ?_; try simp only [Option.isNone_none, Option.isNone_some]; try walk_nrm) | (co_applyP takeK_pure (i := 3) rfl (by rfl) (by kernel_rfl) (by kernel_rfl) (by kernel_rfl) (by first | assumption | exact Kn.Grow.refl _ | rfl) ?_ ?_ ?_; (focus (intro _ K hK; go_simp; exact hK)); (focus (first | (exact fun _ => ev_int rfl rfl rfl rfl) | (exact fun _ => ev_str rfl rfl rfl) | (exact fun _ => ev_build rfl) | (exact fun _ => ev_lenS rfl rfl) | (exact fun _ => ev_lenL rfl rfl) | (exact fun _ => ev_mkI rfl) | (intro _; simp [go_sem, *]; done))); try walk_nrm) | (co_applyP takeK_load1 (i := 3) rfl (by rfl) (by kernel_rfl) (by kernel_rfl) (by kernel_rfl) (by first | assumption | exact Kn.Grow.refl _ | rfl) rfl rfl ?_ ?_ ?_; (focus (intro _; go_simp)); (focus (exact fun k' ⟨E, h⟩ => .inl (hJ E k' h _ _ (by assumption)))); try walk_nrm) | (refine takeK_un (i := 3) rfl (by rfl) (by kernel_rfl) (by kernel_rfl) (by kernel_rfl) (by first | assumption | exact Kn.Grow.refl _ | rfl) ?_; try walk_nrm))
    (first | (refine takeK_nil (i := 4) rfl (by rfl) (by kernel_rfl) (by kernel_rfl) (by kernel_rfl) (by first | assumption | exact Kn.Grow.refl _ | rfl) rfl rfl (by kernel_rfl) ?_; try simp only [Option.isNone_none, Option.isNone_some]; try walk_nrm) | (co_applyP takeK_pure (i := 4) rfl (by rfl) (by kernel_rfl) (by kernel_rfl) (by kernel_rfl) (by first | assumption | exact Kn.Grow.refl _ | rfl) ?_ ?_ ?_; (focus (intro _ K hK; go_simp; exact hK)); (focus (first | (exact fun _ => ev_int rfl rfl rfl rfl) | (exact fun _ => ev_str rfl rfl rfl) | (exact fun _ => ev_build rfl) | (exact fun _ => ev_lenS rfl rfl) | (exact fun _ => ev_lenL rfl rfl) | (exact fun _ => ev_mkI rfl) | (intro _; simp [go_sem, *]; done))); try walk_nrm) | (co_applyP takeK_load1 (i := 4) rfl (by rfl) (by kernel_rfl) (by kernel_rfl) (by kernel_rfl) (by first | assumption | exact Kn.Grow.refl _ | rfl) rfl rfl ?_ ?_ ?_; (focus (intro _; go_simp)); (focus (exact fun k' ⟨E, h⟩ => .inl (hJ E k' h _ _ (by assumption)))); try walk_nrm) | (refine takeK_un (i := 4) rfl (by rfl) (by kernel_rfl) (by kernel_rfl) (by kernel_rfl) (by first | assumption | exact Kn.Grow.refl _ | rfl) ?_; try walk_nrm))
    (first | (refine takeK_nil (i := 5) rfl (by rfl) (by kernel_rfl) (by kernel_rfl) (by kernel_rfl) (by first | assumption | exact Kn.Grow.refl _ | rfl) rfl rfl (by kernel_rfl) ?_; try simp only [Option.isNone_none, Option.isNone_some]; try walk_nrm) | (co_applyP takeK_pure (i := 5) rfl (by rfl) (by kernel_rfl) (by kernel_rfl) (by kernel_rfl) (by first | assumption | exact Kn.Grow.refl _ | rfl) ?_ ?_ ?_; (focus (intro _ K hK; go_simp; exact hK)); (focus (first | (exact fun _ => ev_int rfl rfl rfl rfl) | (exact fun _ => ev_str rfl rfl rfl) | (exact fun _ => ev_build rfl) | (exact fun _ => ev_lenS rfl rfl) | (exact fun _ => ev_lenL rfl rfl) | (exact fun _ => ev_mkI rfl) | (intro _; simp [go_sem, *]; done))); try walk_nrm) | (co_applyP takeK_load1 (i := 5) rfl (by rfl) (by kernel_rfl) (by kernel_rfl) (by kernel_rfl) (by first | assumption | exact Kn.Grow.refl _ | rfl) rfl rfl ?_ ?_ ?_; (focus (intro _; go_simp)); (focus (exact fun k' ⟨E, h⟩ => .inl (hJ E k' h _ _ (by assumption)))); try walk_nrm) | (refine takeK_un (i := 5) rfl (by rfl) (by kernel_rfl) (by kernel_rfl) (by kernel_rfl) (by first | assumption | exact Kn.Grow.refl _ | rfl) ?_; try walk_nrm))
    (first | (refine takeK_nil (i := 6) rfl (by rfl) (by kernel_rfl) (by kernel_rfl) (by kernel_rfl) (by first | assumption | exact Kn.Grow.refl _ | rfl) rfl rfl (by kernel_rfl) ?_; try simp only [Option.isNone_none, Option.isNone_some]; try walk_nrm) | (co_applyP takeK_pure (i := 6) rfl (by rfl) (by kernel_rfl) (by kernel_rfl) (by kernel_rfl) (by first | assumption | exact Kn.Grow.refl _ | rfl) ?_ ?_ ?_; (focus (intro _ K hK; go_simp; exact hK)); (focus (first | (exact fun _ => ev_int rfl rfl rfl rfl) | (exact fun _ => ev_str rfl rfl rfl) | (exact fun _ => ev_build rfl) | (exact fun _ => ev_lenS rfl rfl) | (exact fun _ => ev_lenL rfl rfl) | (exact fun _ => ev_mkI rfl) | (intro _; simp [go_sem, *]; done))); try walk_nrm) | (co_applyP takeK_load1 (i := 6) rfl (by rfl) (by kernel_rfl) (by kernel_rfl) (by kernel_rfl) (by first | assumption | exact Kn.Grow.refl _ | rfl) rfl rfl ?_ ?_ ?_; (focus (intro _; go_simp)); (focus (exact fun k' ⟨E, h⟩ => .inl (hJ E k' h _ _ (by assumption)))); try walk_nrm) | (refine takeK_un (i := 6) rfl (by rfl) (by kernel_rfl) (by kernel_rfl) (by kernel_rfl) (by first | assumption | exact Kn.Grow.refl _ | rfl) ?_; try walk_nrm))
    (first | (refine takeK_nil (i := 7) rfl (by rfl) (by kernel_rfl) (by kernel_rfl) (by kernel_rfl) (by first | assumption | exact Kn.Grow.refl _ | rfl) rfl rfl (by kernel_rfl) ?_; try simp only [Option.isNone_none, Option.isNone_some]; try walk_nrm) | (co_applyP takeK_pure (i := 7) rfl (by rfl) (by kernel_rfl) (by kernel_rfl) (by kernel_rfl) (by first | assumption | exact Kn.Grow.refl _ | rfl) ?_ ?_ ?_; (focus (intro _ K hK; go_simp; exact hK)); (focus (first | (exact fun _ => ev_int rfl rfl rfl rfl) | (exact fun _ => ev_str rfl rfl rfl) | (exact fun _ => ev_build rfl) | (exact fun _ => ev_lenS rfl rfl) | (exact fun _ => ev_lenL rfl rfl) | (exact fun _ => ev_mkI rfl) | (intro _; simp [go_sem, *]; done))); try walk_nrm) | (co_applyP takeK_load1 (i := 7) rfl (by rfl) (by kernel_rfl) (by kernel_rfl) (by kernel_rfl) (by first | assumption | exact Kn.Grow.refl _ | rfl) rfl rfl ?_ ?_ ?_; (focus (intro _; go_simp)); (focus (exact fun k' ⟨E, h⟩ => .inl (hJ E k' h _ _ (by assumption)))); try walk_nrm) | (refine takeK_un (i := 7) rfl (by rfl) (by kernel_rfl) (by kernel_rfl) (by kernel_rfl) (by first | assumption | exact Kn.Grow.refl _ | rfl) ?_; try walk_nrm))
    refine anyK_call 8 (by kernel_rfl) rfl (by rfl) rfl (by walk_nrm) (ihl _ E k (by omega) hl hj) ?_
    rintro _ k1 ⟨rfl, j1⟩
    refine ⟨⟨_, j1⟩, ?_⟩
    clear sK
    have sK : ∃ E, J E k1 := ⟨_, j1⟩
    walk_nrm
    (first | (refine takeK_nil (i := 9) rfl (by rfl) (by kernel_rfl) (by kernel_rfl) (by kernel_rfl) (by first | assumption | exact Kn.Grow.refl _ | rfl) rfl rfl (by kernel_rfl) ?_; try simp only [Option.isNone_none, Option.isNone_some]; try walk_nrm) | (co_applyP takeK_pure (i := 9) rfl (by rfl) (by kernel_rfl) (by kernel_rfl) (by kernel_rfl) (by first | assumption | exact Kn.Grow.refl _ | rfl) ?_ ?_ ?_; (focus (intro _ K hK; go_simp; exact hK)); (focus (first | (exact fun _ => ev_int rfl rfl rfl rfl) | (exact fun _ => ev_str rfl rfl rfl) | (exact fun _ => ev_build rfl) | (exact fun _ => ev_lenS rfl rfl) | (exact fun _ => ev_lenL rfl rfl) | (exact fun _ => ev_mkI rfl) | (intro _; simp [go_sem, *]; done))); try walk_nrm) | (co_applyP takeK_load1 (i := 9) rfl (by rfl) (by kernel_rfl) (by kernel_rfl) (by kernel_rfl) (by first | assumption | exact Kn.Grow.refl _ | rfl) rfl rfl ?_ ?_ ?_; (focus (intro _; go_simp)); (focus (exact fun k' ⟨E, h⟩ => .inl (hJ E k' h _ _ (by assumption)))); try walk_nrm) | (refine takeK_un (i := 9) rfl (by rfl) (by kernel_rfl) (by kernel_rfl) (by kernel_rfl) (by first | assumption | exact Kn.Grow.refl _ | rfl) ?_; try walk_nrm))
    (first | (refine takeK_nil (i := 10) rfl (by rfl) (by kernel_rfl) (by kernel_rfl) (by kernel_rfl) (by first | assumption | exact Kn.Grow.refl _ | rfl) rfl rfl (by kernel_rfl) ?_; try simp only [Option.isNone_none, Option.isNone_some]; try walk_nrm) | (co_applyP takeK_pure (i := 10) rfl (by rfl) (by kernel_rfl) (by kernel_rfl) (by kernel_rfl) (by first | assumption | exact Kn.Grow.refl _ | rfl) ?_ ?_ ?_; (focus (intro _ K hK; go_simp; exact hK)); (focus (first | (exact fun _ => ev_int rfl rfl rfl rfl) | (exact fun _ => ev_str rfl rfl rfl) | (exact fun _ => ev_build rfl) | (exact fun _ => ev_lenS rfl rfl) | (exact fun _ => ev_lenL rfl rfl) | (exact fun _ => ev_mkI rfl) | (intro _; simp [go_sem, *]; done))); try walk_nrm) | (co_applyP takeK_load1 (i := 10) rfl (by rfl) (by kernel_rfl) (by kernel_rfl) (by kernel_rfl) (by first | assumption | exact Kn.Grow.refl _ | rfl) rfl rfl ?_ ?_ ?_; (focus (intro _; go_simp)); (focus (exact fun k' ⟨E, h⟩ => .inl (hJ E k' h _ _ (by assumption)))); try walk_nrm) | (refine takeK_un (i := 10) rfl (by rfl) (by kernel_rfl) (by kernel_rfl) (by kernel_rfl) (by first | assumption | exact Kn.Grow.refl _ | rfl) ?_; try walk_nrm))
    (first | (refine takeK_nil (i := 11) rfl (by rfl) (by kernel_rfl) (by kernel_rfl) (by kernel_rfl) (by first | assumption | exact Kn.Grow.refl _ | rfl) rfl rfl (by kernel_rfl) ?_; try simp only [Option.isNone_none, Option.isNone_some]; try walk_nrm) | (co_applyP takeK_pure (i := 11) rfl (by rfl) (by kernel_rfl) (by kernel_rfl) (by kernel_rfl) (by first | assumption | exact Kn.Grow.refl _ | rfl) ?_ ?_ ?_; (focus (intro _ K hK; go_simp; exact hK)); (focus (first | (exact fun _ => ev_int rfl rfl rfl rfl) | (exact fun _ => ev_str rfl rfl rfl) | (exact fun _ => ev_build rfl) | (exact fun _ => ev_lenS rfl rfl) | (exact fun _ => ev_lenL rfl rfl) | (exact fun _ => ev_mkI rfl) | (intro _; simp [go_sem, *]; done))); try walk_nrm) | (co_applyP takeK_load1 (i := 11) rfl (by rfl) (by kernel_rfl) (by kernel_rfl) (by kernel_rfl) (by first | assumption | exact Kn.Grow.refl _ | rfl) rfl rfl ?_ ?_ ?_; (focus (intro _; go_simp)); (focus (exact fun k' ⟨E, h⟩ => .inl (hJ E k' h _ _ (by assumption)))); try walk_nrm) | (refine takeK_un (i := 11) rfl (by rfl) (by kernel_rfl) (by kernel_rfl) (by kernel_rfl) (by first | assumption | exact Kn.Grow.refl _ | rfl) ?_; try walk_nrm))
    (first | (refine takeK_nil (i := 12) rfl (by rfl) (by kernel_rfl) (by kernel_rfl) (by kernel_rfl) (by first | assumption | exact Kn.Grow.refl _ | rfl) rfl rfl (by kernel_rfl) ?_; try simp only [Option.isNone_none, Option.isNone_some]; try walk_nrm) | (co_applyP takeK_pure (i := 12) rfl (by rfl) (by kernel_rfl) (by kernel_rfl) (by kernel_rfl) (by first | assumption | exact Kn.Grow.refl _ | rfl) ?_ ?_ ?_; (focus (intro _ K hK; go_simp; exact hK)); (focus (first | (exact fun _ => ev_int rfl rfl rfl rfl) | (exact fun _ => ev_str rfl rfl rfl) | (exact fun _ => ev_build rfl) | (exact fun _ => ev_lenS rfl rfl) | (exact fun _ => ev_lenL rfl rfl) | (exact fun _ => ev_mkI rfl) | (intro _; simp [go_sem, *]; done))); try walk_nrm) | (co_applyP takeK_load1 (i := 12) rfl (by rfl) (by kernel_rfl) (by kernel_rfl) (by kernel_rfl) (by first | assumption | exact Kn.Grow.refl _ | rfl) rfl rfl ?_ ?_ ?_; (focus (intro _; go_simp)); (focus (exact fun k' ⟨E, h⟩ => .inl (hJ E k' h _ _ (by assumption)))); try walk_nrm) | (refine takeK_un (i := 12) rfl (by rfl) (by kernel_rfl) (by kernel_rfl) (by kernel_rfl) (by first | assumption | exact Kn.Grow.refl _ | rfl) ?_; try walk_nrm))
    (first | (refine takeK_nil (i := 13) rfl (by rfl) (by kernel_rfl) (by kernel_rfl) (by kernel_rfl) (by first | assumption | exact Kn.Grow.refl _ | rfl) rfl rfl (by kernel_rfl) ?_; try simp only [Option.isNone_none, Option.isNone_some]; try walk_nrm) | (co_applyP takeK_pure (i := 13) rfl (by rfl) (by kernel_rfl) (by kernel_rfl) (by kernel_rfl) (by first | assumption | exact Kn.Grow.refl _ | rfl) ?_ ?_ ?_; (focus (intro _ K hK; go_simp; exact hK)); (focus (first | (exact fun _ => ev_int rfl rfl rfl rfl) | (exact fun _ => ev_str rfl rfl rfl) | (exact fun _ => ev_build rfl) | (exact fun _ => ev_lenS rfl rfl) | (exact fun _ => ev_lenL rfl rfl) | (exact fun _ => ev_mkI rfl) | (intro _; simp [go_sem, *]; done))); try walk_nrm) | (co_applyP takeK_load1 (i := 13) rfl (by rfl) (by kernel_rfl) (by kernel_rfl) (by kernel_rfl) (by first | assumption | exact Kn.Grow.refl _ | rfl) rfl rfl ?_ ?_ ?_; (focus (intro _; go_simp)); (focus (exact fun k' ⟨E, h⟩ => .inl (hJ E k' h _ _ (by assumption)))); try walk_nrm) | (refine takeK_un (i := 13) rfl (by rfl) (by kernel_rfl) (by kernel_rfl) (by kernel_rfl) (by first | assumption | exact Kn.Grow.refl _ | rfl) ?_; try walk_nrm))
    (first | (refine takeK_nil (i := 14) rfl (by rfl) (by kernel_rfl) (by kernel_rfl) (by kernel_rfl) (by first | assumption | exact Kn.Grow.refl _ | rfl) rfl rfl (by kernel_rfl) ?_; try simp only [Option.isNone_none, Option.isNone_some]; try walk_nrm) | (co_applyP takeK_pure (i := 14) rfl (by rfl) (by kernel_rfl) (by kernel_rfl) (by kernel_rfl) (by first | assumption | exact Kn.Grow.refl _ | rfl) ?_ ?_ ?_; (focus (intro _ K hK; go_simp; exact hK)); (focus (first | (exact fun _ => ev_int rfl rfl rfl rfl) | (exact fun _ => ev_str rfl rfl rfl) | (exact fun _ => ev_build rfl) | (exact fun _ => ev_lenS rfl rfl) | (exact fun _ => ev_lenL rfl rfl) | (exact fun _ => ev_mkI rfl) | (intro _; simp [go_sem, *]; done))); try walk_nrm) | (co_applyP takeK_load1 (i := 14) rfl (by rfl) (by kernel_rfl) (by kernel_rfl) (by kernel_rfl) (by first | assumption | exact Kn.Grow.refl _ | rfl) rfl rfl ?_ ?_ ?_; (focus (intro _; go_simp)); (focus (exact fun k' ⟨E, h⟩ => .inl (hJ E k' h _ _ (by assumption)))); try walk_nrm) | (refine takeK_un (i := 14) rfl (by rfl) (by kernel_rfl) (by kernel_rfl) (by kernel_rfl) (by first | assumption | exact Kn.Grow.refl _ | rfl) ?_; try walk_nrm))
    (first | (refine takeK_nil (i := 15) rfl (by rfl) (by kernel_rfl) (by kernel_rfl) (by kernel_rfl) (by first | assumption | exact Kn.Grow.refl _ | rfl) rfl rfl (by kernel_rfl) ?_; try simp only [Option.isNone_none, Option.isNone_some]; try walk_nrm) | (co_applyP takeK_pure (i := 15) rfl (by rfl) (by kernel_rfl) (by kernel_rfl) (by kernel_rfl) (by first | assumption | exact Kn.Grow.refl _ | rfl) ?_ ?_ ?_; (focus (intro _ K hK; go_simp; exact hK)); (focus (first | (exact fun _ => ev_int rfl rfl rfl rfl) | (exact fun _ => ev_str rfl rfl rfl) | (exact fun _ => ev_build rfl) | (exact fun _ => ev_lenS rfl rfl) | (exact fun _ => ev_lenL rfl rfl) | (exact fun _ => ev_mkI rfl) | (intro _; simp [go_sem, *]; done))); try walk_nrm) | (co_applyP takeK_load1 (i := 15) rfl (by rfl) (by kernel_rfl) (by kernel_rfl) (by kernel_rfl) (by first | assumption | exact Kn.Grow.refl _ | rfl) rfl rfl ?_ ?_ ?_; (focus (intro _; go_simp)); (focus (exact fun k' ⟨E, h⟩ => .inl (hJ E k' h _ _ (by assumption)))); try walk_nrm) | (refine takeK_un (i := 15) rfl (by rfl) (by kernel_rfl) (by kernel_rfl) (by kernel_rfl) (by first | assumption | exact Kn.Grow.refl _ | rfl) ?_; try walk_nrm))
    (first | (refine takeK_nil (i := 16) rfl (by rfl) (by kernel_rfl) (by kernel_rfl) (by kernel_rfl) (by first | assumption | exact Kn.Grow.refl _ | rfl) rfl rfl (by kernel_rfl) ?_; try simp only [Option.isNone_none, Option.isNone_some]; try walk_nrm) | (co_applyP takeK_pure (i := 16) rfl (by rfl) (by kernel_rfl) (by kernel_rfl) (by kernel_rfl) (by first | assumption | exact Kn.Grow.refl _ | rfl) ?_ ?_ ?_; (focus (intro _ K hK; go_simp; exact hK)); (focus (first | (exact fun _ => ev_int rfl rfl rfl rfl) | (exact fun _ => ev_str rfl rfl rfl) | (exact fun _ => ev_build rfl) | (exact fun _ => ev_lenS rfl rfl) | (exact fun _ => ev_lenL rfl rfl) | (exact fun _ => ev_mkI rfl) | (intro _; simp [go_sem, *]; done))); try walk_nrm) | (co_applyP takeK_load1 (i := 16) rfl (by rfl) (by kernel_rfl) (by kernel_rfl) (by kernel_rfl) (by first | assumption | exact Kn.Grow.refl _ | rfl) rfl rfl ?_ ?_ ?_; (focus (intro _; go_simp)); (focus (exact fun k' ⟨E, h⟩ => .inl (hJ E k' h _ _ (by assumption)))); try walk_nrm) | (refine takeK_un (i := 16) rfl (by rfl) (by kernel_rfl) (by kernel_rfl) (by kernel_rfl) (by first | assumption | exact Kn.Grow.refl _ | rfl) ?_; try walk_nrm))
    (first | (refine takeK_nil (i := 17) rfl (by rfl) (by kernel_rfl) (by kernel_rfl) (by kernel_rfl) (by first | assumption | exact Kn.Grow.refl _ | rfl) rfl rfl (by kernel_rfl) ?_; try simp only [Option.isNone_none, Option.isNone_some]; try walk_nrm) | (co_applyP takeK_pure (i := 17) rfl (by rfl) (by kernel_rfl) (by kernel_rfl) (by kernel_rfl) (by first | assumption | exact Kn.Grow.refl _ | rfl) ?_ ?_ ?_; (focus (intro _ K hK; go_simp; exact hK)); (focus (first | (exact fun _ => ev_int rfl rfl rfl rfl) | (exact fun _ => ev_str rfl rfl rfl) | (exact fun _ => ev_build rfl) | (exact fun _ => ev_lenS rfl rfl) | (exact fun _ => ev_lenL rfl rfl) | (exact fun _ => ev_mkI rfl) | (intro _; simp [go_sem, *]; done))); try walk_nrm) | (co_applyP takeK_load1 (i := 17) rfl (by rfl) (by kernel_rfl) (by kernel_rfl) (by kernel_rfl) (by first | assumption | exact Kn.Grow.refl _ | rfl) rfl rfl ?_ ?_ ?_; (focus (intro _; go_simp)); (focus (exact fun k' ⟨E, h⟩ => .inl (hJ E k' h _ _ (by assumption)))); try walk_nrm) | (refine takeK_un (i := 17) rfl (by rfl) (by kernel_rfl) (by kernel_rfl) (by kernel_rfl) (by first | assumption | exact Kn.Grow.refl _ | rfl) ?_; try walk_nrm))
    (first | (refine takeK_nil (i := 18) rfl (by rfl) (by kernel_rfl) (by kernel_rfl) (by kernel_rfl) (by first | assumption | exact Kn.Grow.refl _ | rfl) rfl rfl (by kernel_rfl) ?_; try simp only [Option.isNone_none, Option.isNone_some]; try walk_nrm) | (co_applyP takeK_pure (i := 18) rfl (by rfl) (by kernel_rfl) (by kernel_rfl) (by kernel_rfl) (by first | assumption | exact Kn.Grow.refl _ | rfl) ?_ ?_ ?_; (focus (intro _ K hK; go_simp; exact hK)); (focus (first | (exact fun _ => ev_int rfl rfl rfl rfl) | (exact fun _ => ev_str rfl rfl rfl) | (exact fun _ => ev_build rfl) | (exact fun _ => ev_lenS rfl rfl) | (exact fun _ => ev_lenL rfl rfl) | (exact fun _ => ev_mkI rfl) | (intro _; simp [go_sem, *]; done))); try walk_nrm) | (co_applyP takeK_load1 (i := 18) rfl (by rfl) (by kernel_rfl) (by kernel_rfl) (by kernel_rfl) (by first | assumption | exact Kn.Grow.refl _ | rfl) rfl rfl ?_ ?_ ?_; (focus (intro _; go_simp)); (focus (exact fun k' ⟨E, h⟩ => .inl (hJ E k' h _ _ (by assumption)))); try walk_nrm) | (refine takeK_un (i := 18) rfl (by rfl) (by kernel_rfl) (by kernel_rfl) (by kernel_rfl) (by first | assumption | exact Kn.Grow.refl _ | rfl) ?_; try walk_nrm))
    refine anyK_does 19 (by kernel_rfl) rfl (by rfl) (s := Instr.yield l #[.string key, .int .i64 val]) (by unfold execOp; simp [resolve, Deferred.ofValue, invoke, Act.eval, yV]) (hy _ k1 (key, val) (by simp only [List.length_append]; omega) j1) ?_
    rintro _ k2 ⟨rfl, j2⟩
    refine ⟨⟨_, j2⟩, ?_⟩
    clear sK
    have sK : ∃ E, J E k2 := ⟨_, j2⟩
    walk_nrm
    (first | (refine takeK_nil (i := 20) rfl (by rfl) (by kernel_rfl) (by kernel_rfl) (by kernel_rfl) (by first | assumption | exact Kn.Grow.refl _ | rfl) rfl rfl (by kernel_rfl) ?_; try simp only [Option.isNone_none, Option.isNone_some]; try walk_nrm) | (co_applyP takeK_pure (i := 20) rfl (by rfl) (by kernel_rfl) (by kernel_rfl) (by kernel_rfl) (by first | assumption | exact Kn.Grow.refl _ | rfl) ?_ ?_ ?_; (focus (intro _ K hK; go_simp; exact hK)); (focus (first | (exact fun _ => ev_int rfl rfl rfl rfl) | (exact fun _ => ev_str rfl rfl rfl) | (exact fun _ => ev_build rfl) | (exact fun _ => ev_lenS rfl rfl) | (exact fun _ => ev_lenL rfl rfl) | (exact fun _ => ev_mkI rfl) | (intro _; simp [go_sem, *]; done))); try walk_nrm) | (co_applyP takeK_load1 (i := 20) rfl (by rfl) (by kernel_rfl) (by kernel_rfl) (by kernel_rfl) (by first | assumption | exact Kn.Grow.refl _ | rfl) rfl rfl ?_ ?_ ?_; (focus (intro _; go_simp)); (focus (exact fun k' ⟨E, h⟩ => .inl (hJ E k' h _ _ (by assumption)))); try walk_nrm) | (refine takeK_un (i := 20) rfl (by rfl) (by kernel_rfl) (by kernel_rfl) (by kernel_rfl) (by first | assumption | exact Kn.Grow.refl _ | rfl) ?_; try walk_nrm))
    (first | (refine takeK_nil (i := 21) rfl (by rfl) (by kernel_rfl) (by kernel_rfl) (by kernel_rfl) (by first | assumption | exact Kn.Grow.refl _ | rfl) rfl rfl (by kernel_rfl) ?_; try simp only [Option.isNone_none, Option.isNone_some]; try walk_nrm) | (co_applyP takeK_pure (i := 21) rfl (by rfl) (by kernel_rfl) (by kernel_rfl) (by kernel_rfl) (by first | assumption | exact Kn.Grow.refl _ | rfl) ?_ ?_ ?_; (focus (intro _ K hK; go_simp; exact hK)); (focus (first | (exact fun _ => ev_int rfl rfl rfl rfl) | (exact fun _ => ev_str rfl rfl rfl) | (exact fun _ => ev_build rfl) | (exact fun _ => ev_lenS rfl rfl) | (exact fun _ => ev_lenL rfl rfl) | (exact fun _ => ev_mkI rfl) | (intro _; simp [go_sem, *]; done))); try walk_nrm) | (co_applyP takeK_load1 (i := 21) rfl (by rfl) (by kernel_rfl) (by kernel_rfl) (by kernel_rfl) (by first | assumption | exact Kn.Grow.refl _ | rfl) rfl rfl ?_ ?_ ?_; (focus (intro _; go_simp)); (focus (exact fun k' ⟨E, h⟩ => .inl (hJ E k' h _ _ (by assumption)))); try walk_nrm) | (refine takeK_un (i := 21) rfl (by rfl) (by kernel_rfl) (by kernel_rfl) (by kernel_rfl) (by first | assumption | exact Kn.Grow.refl _ | rfl) ?_; try walk_nrm))
    (first | (refine takeK_nil (i := 22) rfl (by rfl) (by kernel_rfl) (by kernel_rfl) (by kernel_rfl) (by first | assumption | exact Kn.Grow.refl _ | rfl) rfl rfl (by kernel_rfl) ?_; try simp only [Option.isNone_none, Option.isNone_some]; try walk_nrm) | (co_applyP takeK_pure (i := 22) rfl (by rfl) (by kernel_rfl) (by kernel_rfl) (by kernel_rfl) (by first | assumption | exact Kn.Grow.refl _ | rfl) ?_ ?_ ?_; (focus (intro _ K hK; go_simp; exact hK)); (focus (first | (exact fun _ => ev_int rfl rfl rfl rfl) | (exact fun _ => ev_str rfl rfl rfl) | (exact fun _ => ev_build rfl) | (exact fun _ => ev_lenS rfl rfl) | (exact fun _ => ev_lenL rfl rfl) | (exact fun _ => ev_mkI rfl) | (intro _; simp [go_sem, *]; done))); try walk_nrm) | (co_applyP takeK_load1 (i := 22) rfl (by rfl) (by kernel_rfl) (by kernel_rfl) (by kernel_rfl) (by first | assumption | exact Kn.Grow.refl _ | rfl) rfl rfl ?_ ?_ ?_; (focus (intro _; go_simp)); (focus (exact fun k' ⟨E, h⟩ => .inl (hJ E k' h _ _ (by assumption)))); try walk_nrm) | (refine takeK_un (i := 22) rfl (by rfl) (by kernel_rfl) (by kernel_rfl) (by kernel_rfl) (by first | assumption | exact Kn.Grow.refl _ | rfl) ?_; try walk_nrm))
    (first | (refine takeK_nil (i := 23) rfl (by rfl) (by kernel_rfl) (by kernel_rfl) (by kernel_rfl) (by first | assumption | exact Kn.Grow.refl _ | rfl) rfl rfl (by kernel_rfl) ?_; try simp only [Option.isNone_none, Option.isNone_some]; try walk_nrm) | (co_applyP takeK_pure (i := 23) rfl (by rfl) (by kernel_rfl) (by kernel_rfl) (by kernel_rfl) (by first | assumption | exact Kn.Grow.refl _ | rfl) ?_ ?_ ?_; (focus (intro _ K hK; go_simp; exact hK)); (focus (first | (exact fun _ => ev_int rfl rfl rfl rfl) | (exact fun _ => ev_str rfl rfl rfl) | (exact fun _ => ev_build rfl) | (exact fun _ => ev_lenS rfl rfl) | (exact fun _ => ev_lenL rfl rfl) | (exact fun _ => ev_mkI rfl) | (intro _; simp [go_sem, *]; done))); try walk_nrm) | (co_applyP takeK_load1 (i := 23) rfl (by rfl) (by kernel_rfl) (by kernel_rfl) (by kernel_rfl) (by first | assumption | exact Kn.Grow.refl _ | rfl) rfl rfl ?_ ?_ ?_; (focus (intro _; go_simp)); (focus (exact fun k' ⟨E, h⟩ => .inl (hJ E k' h _ _ (by assumption)))); try walk_nrm) | (refine takeK_un (i := 23) rfl (by rfl) (by kernel_rfl) (by kernel_rfl) (by kernel_rfl) (by first | assumption | exact Kn.Grow.refl _ | rfl) ?_; try walk_nrm))
    (first | (refine takeK_nil (i := 24) rfl (by rfl) (by kernel_rfl) (by kernel_rfl) (by kernel_rfl) (by first | assumption | exact Kn.Grow.refl _ | rfl) rfl rfl (by kernel_rfl) ?_; try simp only [Option.isNone_none, Option.isNone_some]; try walk_nrm) | (co_applyP takeK_pure (i := 24) rfl (by rfl) (by kernel_rfl) (by kernel_rfl) (by kernel_rfl) (by first | assumption | exact Kn.Grow.refl _ | rfl) ?_ ?_ ?_; (focus (intro _ K hK; go_simp; exact hK)); (focus (first | (exact fun _ => ev_int rfl rfl rfl rfl) | (exact fun _ => ev_str rfl rfl rfl) | (exact fun _ => ev_build rfl) | (exact fun _ => ev_lenS rfl rfl) | (exact fun _ => ev_lenL rfl rfl) | (exact fun _ => ev_mkI rfl) | (intro _; simp [go_sem, *]; done))); try walk_nrm) | (co_applyP takeK_load1 (i := 24) rfl (by rfl) (by kernel_rfl) (by kernel_rfl) (by kernel_rfl) (by first | assumption | exact Kn.Grow.refl _ | rfl) rfl rfl ?_ ?_ ?_; (focus (intro _; go_simp)); (focus (exact fun k' ⟨E, h⟩ => .inl (hJ E k' h _ _ (by assumption)))); try walk_nrm) | (refine takeK_un (i := 24) rfl (by rfl) (by kernel_rfl) (by kernel_rfl) (by kernel_rfl) (by first | assumption | exact Kn.Grow.refl _ | rfl) ?_; try walk_nrm))
    (first | (refine takeK_nil (i := 25) rfl (by rfl) (by kernel_rfl) (by kernel_rfl) (by kernel_rfl) (by first | assumption | exact Kn.Grow.refl _ | rfl) rfl rfl (by kernel_rfl) ?_; try simp only [Option.isNone_none, Option.isNone_some]; try walk_nrm) | (co_applyP takeK_pure (i := 25) rfl (by rfl) (by kernel_rfl) (by kernel_rfl) (by kernel_rfl) (by first | assumption | exact Kn.Grow.refl _ | rfl) ?_ ?_ ?_; (focus (intro _ K hK; go_simp; exact hK)); (focus (first | (exact fun _ => ev_int rfl rfl rfl rfl) | (exact fun _ => ev_str rfl rfl rfl) | (exact fun _ => ev_build rfl) | (exact fun _ => ev_lenS rfl rfl) | (exact fun _ => ev_lenL rfl rfl) | (exact fun _ => ev_mkI rfl) | (intro _; simp [go_sem, *]; done))); try walk_nrm) | (co_applyP takeK_load1 (i := 25) rfl (by rfl) (by kernel_rfl) (by kernel_rfl) (by kernel_rfl) (by first | assumption | exact Kn.Grow.refl _ | rfl) rfl rfl ?_ ?_ ?_; (focus (intro _; go_simp)); (focus (exact fun k' ⟨E, h⟩ => .inl (hJ E k' h _ _ (by assumption)))); try walk_nrm) | (refine takeK_un (i := 25) rfl (by rfl) (by kernel_rfl) (by kernel_rfl) (by kernel_rfl) (by first | assumption | exact Kn.Grow.refl _ | rfl) ?_; try walk_nrm))
    (first | (refine takeK_nil (i := 26) rfl (by rfl) (by kernel_rfl) (by kernel_rfl) (by kernel_rfl) (by first | assumption | exact Kn.Grow.refl _ | rfl) rfl rfl (by kernel_rfl) ?_; try simp only [Option.isNone_none, Option.isNone_some]; try walk_nrm) | (co_applyP takeK_pure (i := 26) rfl (by rfl) (by kernel_rfl) (by kernel_rfl) (by kernel_rfl) (by first | assumption | exact Kn.Grow.refl _ | rfl) ?_ ?_ ?_; (focus (intro _ K hK; go_simp; exact hK)); (focus (first | (exact fun _ => ev_int rfl rfl rfl rfl) | (exact fun _ => ev_str rfl rfl rfl) | (exact fun _ => ev_build rfl) | (exact fun _ => ev_lenS rfl rfl) | (exact fun _ => ev_lenL rfl rfl) | (exact fun _ => ev_mkI rfl) | (intro _; simp [go_sem, *]; done))); try walk_nrm) | (co_applyP takeK_load1 (i := 26) rfl (by rfl) (by kernel_rfl) (by kernel_rfl) (by kernel_rfl) (by first | assumption | exact Kn.Grow.refl _ | rfl) rfl rfl ?_ ?_ ?_; (focus (intro _; go_simp)); (focus (exact fun k' ⟨E, h⟩ => .inl (hJ E k' h _ _ (by assumption)))); try walk_nrm) | (refine takeK_un (i := 26) rfl (by rfl) (by kernel_rfl) (by kernel_rfl) (by kernel_rfl) (by first | assumption | exact Kn.Grow.refl _ | rfl) ?_; try walk_nrm))
    refine anyK_call 27 (by kernel_rfl) rfl (by rfl) rfl (by walk_nrm) (ihr _ _ k2 (by simp only [List.length_append, List.length_cons, List.length_nil]; omega) hr j2) ?_
    rintro _ k3 ⟨rfl, j3⟩
    refine ⟨⟨_, j3⟩, ?_⟩
    clear sK
    have sK : ∃ E, J E k3 := ⟨_, j3⟩
    walk_nrm
    refine tkF 28 ?_
    refine tkF 29 ?_
    refine tkF 30 ?_
    (refine anyK_done (by kernel_rfl) ?_ _; simp only [thenK, blockK, if_true, if_false, reduceIte, Nat.reduceEqDiff])
    refine goF ?_
    exact retK1 rfl rfl ⟨rfl, by simpa [Tr.ents, List.append_assoc] using j3⟩
set_option maxRecDepth 100000 in
theorem all1_k {main : Who} (l ca : Nat) (J : Ents → Kn → Prop) (ro0 : Addr → Option Value) (hJ : ∀ E k, J E k → ∀ a v, ro0 a = some v → k.ro a = some v)
    (N : Nat) (hy : ∀ E k (x : ByteArray × Int), E.length < N → J E k → Does Try.prog main 55 (Instr.yield l #[.string x.1, .int .i64 x.2]) k fun v k' => v = .bool true ∧ J (E ++ [x]) k')
    (t : Tr) (p : Value) (k : Kn) (h : TrK ro0 p t) (hc : ro0 ⟨ca, 0, none⟩ = some p) (hN : t.ents.length ≤ N) (hj : J [] k) :
    CallsK Try.prog main 54 #[yV l, .pointer (some ⟨ca, 0, none⟩)] k fun v k' => J t.ents k' := by
  obtain ⟨pa, rfl⟩ := h.ptr
  have h0 : k.Has ⟨ca, 0, none⟩ (.pointer pa) := .inl (hJ _ _ hj _ _ hc)
  (refine callsK_of Try.func54 (by first | rfl | kernel_rfl) rfl ?_; simp only [Try.ntmps54, List.size_toArray, List.length_cons, List.length_nil, Nat.reduceAdd, Nat.reduceSub, Array.replicate_succ, Array.replicate_zero, List.push_toArray, List.append_toArray, List.nil_append, List.cons_append])
  repeat (first | (apply wpK_region; simp only [List.size_toArray, List.length_cons, List.length_nil, Nat.reduceAdd, Nat.zero_add, List.range, List.range.loop]) | ((first | refine opsK_max rfl (by rfl) rfl rfl rfl ?_ | refine opsK_eqNil rfl (by rfl) rfl rfl (by kernel_rfl) ?_ | refine opsK_neNil rfl (by rfl) rfl rfl (by kernel_rfl) ?_); try simp only [Option.isNone_none, Option.isNone_some, Bool.not_true, Bool.not_false]; try walk_nrm) | (co_applyP opsK_pure_k rfl (by rfl) ?_ ?_ ?_; (focus (intro _ K hK; go_simp; exact hK)); (focus (first | (exact fun _ => ev_int rfl rfl rfl rfl) | (exact fun _ => ev_str rfl rfl rfl) | (exact fun _ => ev_build rfl) | (exact fun _ => ev_lenS rfl rfl) | (exact fun _ => ev_lenL rfl rfl) | (exact fun _ => ev_mkI rfl) | (intro _; simp [go_sem, *]; done))); try walk_nrm) | (co_applyP opsK_load1 rfl (by rfl) rfl rfl ?_ ?_ ?_; (focus (intro _; go_simp)); (focus (exact h0)); try walk_nrm) | ((first | apply wpK_seq | apply wpK_block | apply wpK_skip | apply wpK_label | apply wpK_ret | apply wpK_exit | apply opsK_nil); try simp only [thenK, blockK, if_true, if_false, reduceIte, Nat.reduceEqDiff]) | (refine wpK_cond rfl ?_; simp only [if_true, if_false, reduceIte, Bool.false_eq_true]) | (refine opsK_unwanted rfl (by rfl) ?_; try walk_nrm))
  refine opsK_callv rfl (by rfl) rfl (by first | (walk_nrm; done) | (walk_nrm; rfl)) (each_k l J ro0 hJ N hy t _ [] k (by simpa using hN) h hj) ?_
  rintro _ k1 ⟨rfl, j1⟩
  walk_nrm
  refine goF ?_
  exact retK0 (.inr rfl) rfl rfl (by simpa using j1)
set_option maxRecDepth 100000 in
theorem all_k {main : Who} (k : Kn) (p : Value) (hp : ∃ x, p = .pointer x) :
    CallsK Try.prog main 25 #[.agg #[p]] k fun v k' => ∃ ca, v = .func (.func 54) #[] #[.pointer (some ⟨ca, 0, none⟩)] ∧ k'.ro ⟨ca, 0, none⟩ = some p ∧ k.Grow k' := by
  obtain ⟨x, rfl⟩ := hp
  (refine callsK_of Try.func25 (by first | rfl | kernel_rfl) rfl ?_; simp only [Try.ntmps25, List.size_toArray, List.length_cons, List.length_nil, Nat.reduceAdd, Nat.reduceSub, Array.replicate_succ, Array.replicate_zero, List.push_toArray, List.append_toArray, List.nil_append, List.cons_append])
  (first | apply wpK_seq | apply wpK_block | apply wpK_skip | apply wpK_label | apply wpK_ret | apply wpK_exit | apply opsK_nil)
  (apply wpK_region; simp only [List.size_toArray, List.length_cons, List.length_nil, Nat.reduceAdd, Nat.zero_add, List.range, List.range.loop])
  refine opsK_boxRo rfl (by rfl) rfl rfl ?_
  intro b hb
  have g := hb.grow #[.pointer x]
  have h0 : (k.lay b #[.pointer x]).ro ⟨b, 0, none⟩ = some (.pointer x) := Kn.lay_at _ _ _ _
  walk_nrm
  refine goF ?_
  exact retK1 rfl rfl ⟨b, rfl, h0, g⟩
section
variable {P : Program} {k : Kn} {a : Act} {o : Oper} {K : Act → Kn → Prop}
theorem exec_load1 {t : TypeId} {x : Operand} {ad : Addr} {v : Value} (hop : o.op = .load t x) (hx : a.eval x = .pointer (some ad)) (hag : ∀ w, (Go.isAgg t).run P w = .ok false w) (hc : k.Has ad v) (h : K (a.put o.dst v) k) : Trip P k (execOp a.eval o) (nextA K a o.dst) := by
  unfold execOp
  simp only [hop, hx, Instr.loadAt, Instr.sureAddr]
  exact Trip.bind (Trip.bind (Trip.pure (Trip.loadVar1 hag hc (Trip.pure h))))
theorem exec_append1 {t e xt : TypeId} {ti : TypeInfo} {sz n cx : Nat} {x y : Operand} {v z : Value} {vs news : List Value} {ax : Addr} (hop : o.op = .call { callee := .builtin .append, args := #[x, y], argTypes := #[t, xt] })
    (hxv : a.eval x = v) (hyv : a.eval y = .slice (some ax) 1 cx)
    (ht : P.underlying t = some (.slice e)) (hxt : P.underlying xt = some (.slice e)) (hi : P.info? e = some ti) (hb0 : ti.bytes ≠ 0)
    (hsz : ∀ w, (Go.sizeOf e).run P w = .ok sz w) (hz : ∀ w, (Go.zeroValue e).run P w = .ok z w) (hzs : z.cells.size = sz) (hown : OwnSl k e sz v n vs) (hx : k.Reads ax news) (hl : news.length = sz) (hone : news.all Value.oneCell' = true)
    (hn : (n + 1) * ti.bytes ≤ 140737488355328) (h : ∀ v' k', OwnSl k' e sz v' (n + 1) (vs ++ news) → RowTo k v k' v' → K (a.put o.dst v') k') : Trip P k (execOp a.eval o) (nextA K a o.dst) := by
  have : (#[x, y] : Array Operand).map a.eval = #[v, .slice (some ax) 1 cx] := by simp [hxv, hyv]
  rw [exec_builtin hop, this]
  exact Trip.bind (Trip.append1 ht hxt hi hb0 hsz hz hzs hown hx hl hone hn fun v' k' h1 h2 => Trip.pure (h v' k' h1 h2))
theorem exec_buildSlice1 {t e : TypeId} {sz : Nat} {x : Operand} {v z : Value} (hop : o.op = .buildSlice t 1 #[(0, x)]) (hxv : a.eval x = v)
    (ht : P.underlying t = some (.slice e)) (hsz : ∀ w, (Go.sizeOf e).run P w = .ok sz w) (hs0 : 0 < sz) (hs24 : sz ≤ 16777216) (hz : ∀ w, (Go.zeroValue e).run P w = .ok z w) (hzs : z.cells.size = sz) (hv : v.cells.size = sz)
    (h : ∀ b, k.New b → K (a.put o.dst (.slice (some ⟨b, 0, none⟩) 1 1)) (k.set b (.cells v.cells e))) : Trip P k (execOp a.eval o) (nextA K a o.dst) := by
  unfold execOp
  simp only [hop, List.map_toArray, List.map_cons, List.map_nil, hxv]
  exact Trip.bind (Trip.buildSlice1 ht hsz hs0 hs24 hz hzs hv fun b hb => Trip.pure (h b hb))
end
theorem namedC_snoc (l : List (ByteArray × Int)) (x : ByteArray × Int) : namedC (l ++ [x]) = namedC l ++ [.string x.1, intV x.2] := by simp [namedC]
noncomputable def TI26 : TypeInfo := (Try.prog.info? 26).getD default
set_option maxRecDepth 100000 in
set_option maxHeartbeats 4000000 in
theorem list_k {main : Who} (k : Kn) (B : Nat) (num : Int) (p last : Value) (t : Tr) (ht : TrK k.ro p t) (hl : ∃ x, last = .map x) (hb : k.own B = some (.cells (boxC num p last) 64)) (hn : t.ents.length < 1099511627776) :
    CallsK Try.prog main 10 #[.pointer (some ⟨B, 0, none⟩)] k fun v k' => k.Ext k' ∧ OwnSl k' 26 2 v t.ents.length (namedC t.ents) := by
  have hp := ht.ptr
  (refine callsK_of Try.func10 (by first | rfl | kernel_rfl) rfl ?_; simp only [Try.ntmps10, List.size_toArray, List.length_cons, List.length_nil, Nat.reduceAdd, Nat.reduceSub, Array.replicate_succ, Array.replicate_zero, List.push_toArray, List.append_toArray, List.nil_append, List.cons_append])
  refine goF ?_
  refine opsK_alloc (z := .slice none 0 0) rfl (by rfl) rfl (fun w => by kernel_rfl) ?_
  (intro b1 hb1; refine hb1.pack (M := fun k1 => OpsK _ _ _ _ _ _ _ k1) _ ?_; intro k1 x1 o1 n1; try simp only [Value.cells] at o1); walk_nrm
  refine goF ?_
  refine opsK_callv rfl (by rfl) rfl (by first | (walk_nrm; done) | (walk_nrm; rfl)) (committed_k k1 B num p last hp hl (x1.own _ _ hb)) ?_
  rintro _ k2 ⟨rfl, x2⟩
  obtain ⟨x, rfl⟩ := hp
  walk_nrm
  refine opsK_sure (.agg #[.pointer x]) rfl (by rfl) (fun w => by kernel_rfl) (fun w => by kernel_rfl) ?_; walk_nrm
  refine opsK_callv rfl (by rfl) rfl (by first | (walk_nrm; done) | (walk_nrm; rfl)) (all_k k2 (.pointer x) ⟨x, rfl⟩) ?_
  rintro _ k3 ⟨ca, rfl, hca, g3⟩
  walk_nrm
  refine opsK_nil ?_
  simp only [thenK, blockK, if_true, if_false, reduceIte, Nat.reduceEqDiff]
  (first | apply wpK_seq | apply wpK_block | apply wpK_skip | apply wpK_label | apply wpK_ret | apply wpK_exit | apply opsK_nil)
  refine wpK_rangeFunc rfl ?_
  intro r l hr hlw
  generalize hlp : (Loop.mk _ _ _ _ _ _ _ _) = lp0
  have x13 : k1.Ext k3 := x2.trans g3.ext
  have o1' := x13.own _ _ o1
  have xr : k3.Ext ((k3.set r (.deferred (some []))).set l (.loop lp0)) := (hr.ext _).trans (hlw.ext _)
  have or' : ((k3.set r (.deferred (some []))).set l (.loop lp0)).own r = some (.deferred (some [])) := (hlw.ext _).own _ _ (Kn.set_same _ _ _)
  have ol' : ((k3.set r (.deferred (some []))).set l (.loop lp0)).own l = some (.loop lp0) := Kn.set_same _ _ _
  have hx0 : k.Ext ((k3.set r (.deferred (some []))).set l (.loop lp0)) := x1.trans (x13.trans xr)
  have nrk : k.own r = none := by
    cases h : k.own r with
    | none => rfl
    | some o => have := (x1.trans x13).own _ _ h; rw [hr.own] at this; cases this
  have nlk : k.own l = none := by
    cases h : k.own l with
    | none => rfl
    | some o => have := ((x1.trans x13).trans (hr.ext (.deferred (some [])))).own _ _ h; rw [hlw.own] at this; cases this
  generalize (k3.set r (.deferred (some []))).set l (.loop lp0) = kb at xr or' ol' hx0 ⊢
  have ob := xr.own _ _ o1'
  have tb : TrK kb.ro (.pointer x) t := ht.mono hx0.ro
  have nbl : b1 ≠ l := fun e => by subst e; rw [ol'] at ob; cases ob
  have nrl : r ≠ l := fun e => by subst e; rw [ol'] at or'; cases or'
  have nbr : b1 ≠ r := fun e => by subst e; rw [or'] at ob; cases ob
  refine CallsK.mono (all1_k l ca (fun E k' => ∃ lv, k'.own b1 = some (.cells #[lv] 27) ∧ OwnSl k' 26 2 lv E.length (namedC E) ∧ (∀ b n c, lv = .slice (some ⟨b, 0, none⟩) n c → kb.own b = none) ∧ k'.own l = some (.loop lp0) ∧ kb.ExtX (fun b => b = b1 ∨ b = l) k') kb.ro
    (fun E k' ⟨_, _, _, _, _, h⟩ => h.ro) t.ents.length ?_ t (.pointer x) kb tb (xr.ro _ _ hca) (Nat.le_refl _) ⟨.slice none 0 0, ob, OwnSl.nil _ _ _, fun b n c h => (by cases h), ol', Kn.ExtX.refl _⟩) ?_
  · rintro E k' y hE ⟨lv, jb, jo, jn, jl, jx⟩
    refine yield_does (lp := lp0) #[.pointer (some ⟨B, 0, none⟩), undef, .slice none 0 0, .pointer (some ⟨b1, 0, none⟩), undef, undef, .pointer (some ⟨B, 0, none⟩), .bool false, .pointer (some ⟨B, 0, none⟩), .agg #[.int .i64 num, .pointer x], .agg #[.pointer x], .func (.func 54) #[] #[.pointer (some ⟨ca, 0, none⟩)], .string y.1, .int .i64 y.2, undef, undef, undef, undef, undef, undef, undef] (by rw [← hlp]; simp) jl (by rw [← hlp]) (by rw [← hlp]; rfl) ?_
    have e0 : ({ lp0 with state := .ready, pending := none } : Loop) = lp0 := by rw [← hlp]
    rw [e0]
    generalize ({ lp0 with state := .busy } : Loop) = lpb
    have eA := congrArg Loop.assign hlp
    have eB := congrArg Loop.body hlp
    have eF := congrArg Loop.fn hlp
    rw [← eA, ← eB, ← eF]
    clear eA eB eF e0
    dsimp only
    refine wpR_seq (wpR_region ?_)
    simp only [List.size_toArray, List.length_cons, List.length_nil, Nat.reduceAdd, Nat.zero_add, List.range, List.range.loop]
    refine opsR_pure (v := .string y.1) rfl (by rfl) (by simp) (fun w => by kernel_rfl) (fun w => by kernel_rfl) ?_
    walk_nrm
    refine opsR_nil (wpR_region ?_)
    simp only [List.size_toArray, List.length_cons, List.length_nil, Nat.reduceAdd, Nat.zero_add, List.range, List.range.loop]
    refine opsR_pure (v := .int .i64 y.2) rfl (by rfl) (by simp) (fun w => by kernel_rfl) (fun w => by kernel_rfl) ?_
    walk_nrm
    refine opsR_nil ⟨jl, wpR_block (wpR_region ?_)⟩
    simp only [List.size_toArray, List.length_cons, List.length_nil, Nat.reduceAdd, Nat.zero_add, List.range, List.range.loop]
    have kx : kb.ExtX (fun b => b = b1 ∨ b = l) (k'.set l (.loop lpb)) := jx.trans (Kn.ExtX.set _ _ _ (.inr rfl))
    have kl : (k'.set l (.loop lpb)).own l = some (.loop lpb) := Kn.set_same _ _ _
    have kb1 : (k'.set l (.loop lpb)).own b1 = some (.cells #[lv] 27) := by rw [Kn.set_ne _ _ nbl]; exact jb
    have ko : OwnSl (k'.set l (.loop lpb)) 26 2 lv E.length (namedC E) := ⟨jo.len, jo.at_.imp id fun ⟨b, cap, c, h1, h2, h3, h4⟩ => ⟨b, cap, c, h1, h2, by rw [Kn.set_ne _ _ (fun e => by subst e; rw [jl] at h3; cases h3)]; exact h3, h4⟩⟩
    generalize k'.set l (.loop lpb) = kc at kx kl kb1 ko ⊢
    refine opsR_trip rfl (by rfl) (by simp) (exec_load1 rfl rfl (fun w => by kernel_rfl) (Kn.has_own kb1 rfl) ?_)
    walk_nrm
    refine opsR_pure (v := .string y.1) rfl (by rfl) (by simp) (fun w => by kernel_rfl) (fun w => by kernel_rfl) ?_
    walk_nrm
    refine opsR_pure (v := .int .i64 y.2) rfl (by rfl) (by simp) (fun w => by kernel_rfl) (fun w => by kernel_rfl) ?_
    walk_nrm
    refine opsR_pure (v := .agg #[.string y.1, .int .i64 y.2]) rfl (by rfl) (by simp) (fun w => run_eq_of fun K hK => by go_simp; exact hK) (fun w => ev_build rfl) ?_
    walk_nrm
    refine opsR_trip rfl (by rfl) (by simp) (exec_buildSlice1 (e := 26) (sz := 2) (v := .agg #[.string y.1, .int .i64 y.2]) (z := .agg #[.string ⟨#[]⟩, .int .i64 0]) rfl rfl (by kernel_rfl) (fun w => by kernel_rfl) (by decide) (by decide) (fun w => by kernel_rfl) rfl rfl ?_)
    intro b4 hb4
    have x4 : kc.Ext (kc.set b4 (.cells #[.string y.1, .int .i64 y.2] 26)) := hb4.ext _
    have o4 : (kc.set b4 (.cells #[.string y.1, .int .i64 y.2] 26)).own b4 = some (.cells #[.string y.1, .int .i64 y.2] 26) := Kn.set_same _ _ _
    walk_nrm
    simp only [Value.cells]
    generalize kc.set b4 (.cells #[.string y.1, .int .i64 y.2] 26) = kd at x4 o4 ⊢
    refine opsR_trip rfl (by rfl) (by simp) (exec_append1 (e := 26) (sz := 2) (n := E.length) (z := .agg #[.string ⟨#[]⟩, .int .i64 0]) (ti := TI26) (news := [.string y.1, .int .i64 y.2]) rfl rfl rfl (by kernel_rfl) (by kernel_rfl) (by kernel_rfl) (by decide) (fun w => by kernel_rfl) (fun w => by kernel_rfl) rfl (ko.ext x4.own) (reads2 (Kn.has_own o4 rfl) (Kn.has_own o4 rfl)) rfl rfl (by show (E.length + 1) * 24 ≤ _; omega) ?_)
    intro v' ke hv' hto
    have hS : ∀ b, (b = b1 ∨ b = l) → kd.own b ≠ none := by
      rintro b (rfl | rfl)
      · rw [x4.own _ _ kb1]; simp
      · rw [x4.own _ _ kl]; simp
    obtain ⟨ex, en⟩ := hto.extX (kx.trans x4.x) hS jn
    have eb := hto.keep (ko.ext x4.own) (x4.own _ _ kb1) (fun c h => by simp at h)
    have el := hto.keep (ko.ext x4.own) (x4.own _ _ kl) (fun c h => by simp at h)
    obtain ⟨sa, sc, rfl⟩ : ∃ a c, v' = .slice a (E.length + 1) c := by
      rcases hv'.at_ with ⟨_, h⟩ | ⟨b, cap, c, h, _⟩
      · omega
      · exact ⟨_, _, h⟩
    walk_nrm
    refine opsR_trip rfl (by rfl) (by simp) (exec_storeL (c' := #[.slice sa (E.length + 1) sc]) rfl rfl rfl rfl (fun w => by kernel_rfl) eb rfl rfl rfl ?_)
    walk_nrm
    have fx : kb.ExtX (fun b => b = b1 ∨ b = l) (ke.set b1 (.cells #[.slice sa (E.length + 1) sc] 27)) := ex.trans (Kn.ExtX.set _ _ _ (.inl rfl))
    have keep : ∀ {b : Nat} {c : Array Value}, ke.own b = some (.cells c 26) → ((ke.set b1 (.cells #[.slice sa (E.length + 1) sc] 27)).set l (.loop lp0)).own b = some (.cells c 26) := fun {b c} h => by
      rw [Kn.set_ne _ _ (fun e => by subst e; rw [el] at h; cases h), Kn.set_ne _ _ (fun e => by subst e; rw [eb] at h; simp at h)]
      exact h
    refine opsR_nil ⟨?_, (by first | trivial | rfl), _, ?_, ?_, en, Kn.set_same _ _ _, fx.trans (Kn.ExtX.set _ _ _ (.inr rfl))⟩
    · rw [Kn.set_ne _ _ (Ne.symm nbl)]; exact el
    · rw [Kn.set_ne _ _ nbl]; exact Kn.set_same _ _ _
    · rw [List.length_append, namedC_snoc]
      exact ⟨hv'.len, hv'.at_.imp id fun ⟨b, cap, c, h1, h2, h3, h4⟩ => ⟨b, cap, c, h1, h2, keep h3, h4⟩⟩
  · rintro v k' ⟨lv, jb, jo, jn, jl, jx⟩
    refine ⟨lp0, jl, by rw [← hlp], by rw [← hlp], ?_⟩
    have y1 : (k'.set l (.loop { lp0 with state := .exhausted })).own b1 = some (.cells #[lv] 27) := by rw [Kn.set_ne _ _ nbl]; exact jb
    have yr : (k'.set l (.loop { lp0 with state := .exhausted })).own r = some (.deferred (some [])) := by rw [Kn.set_ne _ _ nrl]; exact jx.own _ _ (by simp only [not_or]; exact ⟨Ne.symm nbr, nrl⟩) or'
    have yx : kb.ExtX (fun b => b = b1 ∨ b = l) (k'.set l (.loop { lp0 with state := .exhausted })) := jx.trans (Kn.ExtX.set _ _ _ (.inr rfl))
    have yo : OwnSl (k'.set l (.loop { lp0 with state := .exhausted })) 26 2 lv t.ents.length (namedC t.ents) := ⟨jo.len, jo.at_.imp id fun ⟨b, cap, c, h1, h2, h3, h4⟩ => ⟨b, cap, c, h1, h2, by rw [Kn.set_ne _ _ (fun e => by subst e; rw [jl] at h3; cases h3)]; exact h3, h4⟩⟩
    generalize k'.set l (.loop { lp0 with state := .exhausted }) = kz at y1 yr yx yo ⊢
    obtain ⟨sa, sc, rfl⟩ : ∃ a c, lv = .slice a t.ents.length c := by
      rcases yo.at_ with ⟨h1, h2⟩ | ⟨b, cap, c, h, _⟩
      · exact ⟨none, 0, by rw [h1, h2]⟩
      · exact ⟨_, _, h⟩
    have z1 : kz.Has ⟨b1, 0, none⟩ (.slice sa t.ents.length sc) := Kn.has_own y1 rfl
    simp only [thenK, blockK, if_true, if_false, reduceIte, Nat.reduceEqDiff]
    repeat (first | (apply wpK_region; simp only [List.size_toArray, List.length_cons, List.length_nil, Nat.reduceAdd, Nat.zero_add, List.range, List.range.loop]) | ((first | refine opsK_max rfl (by rfl) rfl rfl rfl ?_ | refine opsK_eqNil rfl (by rfl) rfl rfl (by kernel_rfl) ?_ | refine opsK_neNil rfl (by rfl) rfl rfl (by kernel_rfl) ?_); try simp only [Option.isNone_none, Option.isNone_some, Bool.not_true, Bool.not_false]; try walk_nrm) | (co_applyP opsK_pure_k rfl (by rfl) ?_ ?_ ?_; (focus (intro _ K hK; go_simp; exact hK)); (focus (first | (exact fun _ => ev_int rfl rfl rfl rfl) | (exact fun _ => ev_str rfl rfl rfl) | (exact fun _ => ev_build rfl) | (exact fun _ => ev_lenS rfl rfl) | (exact fun _ => ev_lenL rfl rfl) | (exact fun _ => ev_mkI rfl) | (intro _; simp [go_sem, *]; done))); try walk_nrm) | (co_applyP opsK_load1 rfl (by rfl) rfl rfl ?_ ?_ ?_; (focus (intro _; go_simp)); (focus (exact z1)); try walk_nrm) | ((first | apply wpK_seq | apply wpK_block | apply wpK_skip | apply wpK_label | apply wpK_ret | apply wpK_exit | apply opsK_nil); try simp only [thenK, blockK, if_true, if_false, reduceIte, Nat.reduceEqDiff]) | (refine wpK_cond rfl ?_; simp only [if_true, if_false, reduceIte, Bool.false_eq_true]) | (refine opsK_unwanted rfl (by rfl) ?_; try walk_nrm))
    refine retKR rfl yr (retK1 (main := main) (a := ⟨_, []⟩) rfl rfl ⟨?_, ?_⟩)
    · have nb1k : k.own b1 = none := n1
      refine ⟨fun a v h => yx.ro _ _ (hx0.ro _ _ h), fun b o h => ?_, yx.oc.trans hx0.oc, yx.deaf.trans hx0.deaf, yx.live.trans hx0.live, yx.gh.trans hx0.gh⟩
      rw [Kn.set_ne _ _ (fun e => by subst e; rw [nrk] at h; cases h)]
      refine yx.own _ _ ?_ (hx0.own _ _ h)
      rintro (rfl | rfl)
      · rw [nb1k] at h; cases h
      · rw [nlk] at h; cases h
    · exact ⟨yo.len, yo.at_.imp id fun ⟨b, cap, c, h1, h2, h3, h4⟩ => ⟨b, cap, c, h1, h2, by rw [Kn.set_ne _ _ (fun e => by subst e; rw [yr] at h3; cases h3)]; exact h3, h4⟩⟩
end Go.Proofs.Ytacfhfeegalmlaa

/- THE LAW's small functions, in company: boxes, Num, IDs. -/
namespace Go.Proofs.Ytacfhfeegalmlaa
open Go.Conc
set_option linter.unusedVariables false
set_option linter.unusedSimpArgs false

def nmA : ByteArray := ByteArray.mk #[97]
set_option maxRecDepth 100000 in
set_option maxHeartbeats 4000000 in
theorem boxes_k {main : Who} (k : Kn) : CallsK Try.prog main 4 #[] k fun v k' => v = .bool true ∧ k.Ext k' := by
  (refine callsK_of Try.func4 (by first | rfl | kernel_rfl) rfl ?_; simp only [Try.ntmps4, List.size_toArray, List.length_cons, List.length_nil, Nat.reduceAdd, Nat.reduceSub, Array.replicate_succ, Array.replicate_zero, List.push_toArray, List.append_toArray, List.nil_append, List.cons_append])
  refine goF ?_
  refine opsK_buildSlice1 (e := 26) (sz := 2) (v := .agg #[.string nmA, .int .i64 1]) (z := .agg #[.string ⟨#[]⟩, .int .i64 0]) rfl (by rfl) rfl rfl (by kernel_rfl) (fun w => by kernel_rfl) (by decide) (by decide) (fun w => by kernel_rfl) rfl rfl ?_
  (intro b1 hb1; refine hb1.pack (M := fun k1 => OpsK _ _ _ _ _ _ _ k1) _ ?_; intro k1 x1 o1 n1; try simp only [Value.cells] at o1); walk_nrm
  refine opsK_callv rfl (by rfl) rfl (by first | (walk_nrm; done) | (walk_nrm; rfl)) (new_k k1 [(nmA, 1)] ⟨b1, 0, none⟩ 1 (by intro x hx; simp at hx; subst hx; decide) (by simp) (by decide) rfl (fun j u hj => by
    match j, hj with
    | 0, hj => obtain rfl := Option.some.inj hj; exact Kn.has_own o1 rfl
    | 1, hj => obtain rfl := Option.some.inj hj; exact Kn.has_own o1 rfl)) ?_
  rintro _ k2 ⟨B, ml, p, t, rfl, x2, nB, nl, hB, hL, ht, ot, he, st, hsz⟩
  walk_nrm
  refine goF ?_
  refine opsK_sure (.bool false) rfl (by rfl) (fun w => by kernel_rfl) (fun w => by kernel_rfl) ?_; walk_nrm
  refine goF ?_
  have hp := ht.ptr
  refine opsK_callv rfl (by rfl) rfl (by first | (walk_nrm; done) | (walk_nrm; rfl)) (tbegin_k k2 B 0 p _ hp ⟨_, rfl⟩ hB) ?_
  rintro _ k3 ⟨T, mr, mc, rfl, x3, hT, nT1, nr1, nc1⟩
  walk_nrm
  refine goF ?_
  refine opsK_callv rfl (by rfl) rfl (by first | (walk_nrm; done) | (walk_nrm; rfl)) (tbegin_k k3 B 0 p _ hp ⟨_, rfl⟩ (x3.own _ _ hB)) ?_
  rintro _ k4 ⟨T2, mr2, mc2, rfl, x4, hT2, nT2, nr2, nc2⟩
  walk_nrm
  refine goF ?_
  refine opsK_callv rfl (by rfl) rfl (by first | (walk_nrm; done) | (walk_nrm; rfl)) (tput_k k4 T2 B 0 p _ _ mr2 mc2 0 nmA 2 hT2) ?_
  rintro _ k5 ⟨rfl, hT3, x5⟩
  have hva : validN nmA = true := by decide
  simp only [hva, if_true] at hT3 ⊢
  walk_nrm
  refine goF ?_
  refine opsK_sure (.bool false) rfl (by rfl) (fun w => by kernel_rfl) (fun w => by kernel_rfl) ?_; walk_nrm
  refine goF ?_
  have hL5 : LastK k5 ml (fun _ => none) := hL.ext fun o h => by
    have h4 := x4.own _ _ (x3.own _ _ h)
    exact x5.own _ _ (fun e => by subst e; rw [x3.own _ _ h] at nc2; cases nc2) h4
  have hB4 := x4.own _ _ (x3.own _ _ hB)
  have hB5 : k5.own B = some (.cells (boxC 0 p (.map (some ml))) 64) := x5.own _ _ (fun e => by subst e; obtain ⟨es, c, h1, _⟩ := hT2.ch; rw [h1] at hB4; cases hB4) hB4
  have ht5 := ht.mono (fun a v h => x5.ro a v (x4.ro a v (x3.ro a v h)))
  have nl3 : k3.own ml ≠ none := by obtain ⟨es, c, h1, _⟩ := hL.at_; rw [x3.own _ _ h1]; simp
  have hC : (updB (fun _ => none) nmA (.agg #[.int .i64 2, .bool false])) = fun s => ((updB (fun _ => none) nmA (2 : Int)) s).map chV := by
    funext s
    unfold updB
    split <;> rfl
  rw [hC] at hT3
  have hsz1 : t.sz ≤ 1 := hsz
  refine opsK_callv rfl (by rfl) rfl (by first | (walk_nrm; done) | (walk_nrm; rfl)) (tcommit_k k5 B ml T2 0 0 p p t (fun _ => none) (updB (fun _ => none) nmA 2) (fun _ => none) mr2 mc2 1 hB5 hL5 hT3 ht5 ot st (by decide) (by omega) (fun e => nl3 (e ▸ nr2)) (fun e => nl3 (e ▸ nc2))) ?_
  have hex : ∃ s, (updB (fun _ => none) nmA (2 : Int)) s ≠ none := ⟨nmA, by simp [updB]⟩
  intro v k6 hv
  rcases hv with ⟨h, _⟩ | ⟨_, _, ⟨s, _, h⟩, _⟩ | ⟨_, rfl, _, p', t', _, _, _, _, _, _, _, x6⟩
  · obtain ⟨s, hs⟩ := hex
    exact absurd (h s) hs
  · simp [lastN] at h
  have hT6 : TxnK k6 T B 0 p (fun _ => none) (fun _ => none) mr mc 0 false := by
    have nml2 : k2.own ml ≠ none := by obtain ⟨es, c, h1, _⟩ := hL.at_; rw [h1]; simp
    have key : ∀ {b : Nat} {o : Obj}, k3.own b = some o → k2.own b = none → k6.own b = some o := fun {b o} h h2 => by
      refine x6.own _ _ ?_ (x5.own _ _ (fun e => by subst e; rw [h] at nc2; cases nc2) (x4.own _ _ h))
      rintro (rfl | rfl | rfl)
      · rw [hB] at h2; cases h2
      · exact nml2 h2
      · rw [h] at nT2; cases nT2
    exact ⟨key hT.txn nT1, by obtain ⟨es, c, h1, h2⟩ := hT.rd; exact ⟨es, c, key h1 nr1, h2⟩, by obtain ⟨es, c, h1, h2⟩ := hT.ch; exact ⟨es, c, key h1 nc1, h2⟩, hT.ne1, hT.ne2, hT.ne3⟩
  have ht6 := ht5.mono x6.ro
  have hgt : getT t nmA = some 1 := by
    rw [getT_ents st, he]
    rfl
  walk_nrm
  refine goF ?_
  refine opsK_callv rfl (by rfl) rfl (by first | (walk_nrm; done) | (walk_nrm; rfl)) (tget_k k6 T B 0 p _ _ mr mc 0 t nmA hT6 ht6 rfl hva 1 hgt) ?_
  rintro _ k7 ⟨rfl, x7⟩
  simp only [intV]
  walk_nrm
  refine goF ?_
  refine opsK_sure (.bool true) rfl (by rfl) (fun w => by kernel_rfl) (fun w => by kernel_rfl) ?_; walk_nrm
  refine goF ?_
  refine opsK_sure (.bool true) rfl (by rfl) (fun w => by kernel_rfl) (fun w => by kernel_rfl) ?_; walk_nrm
  refine goF ?_
  refine retK1 rfl rfl ⟨rfl, ⟨fun a v h => x7.ro _ _ (x6.ro _ _ (x5.ro _ _ (x4.ro _ _ (x3.ro _ _ (x2.ro _ _ (x1.ro _ _ h)))))), fun b o h => ?_, x7.oc.trans (x6.oc.trans (x5.oc.trans (x4.oc.trans (x3.oc.trans (x2.oc.trans x1.oc))))), x7.deaf.trans (x6.deaf.trans (x5.deaf.trans (x4.deaf.trans (x3.deaf.trans (x2.deaf.trans x1.deaf))))),
    x7.live.trans (x6.live.trans (x5.live.trans (x4.live.trans (x3.live.trans (x2.live.trans x1.live))))), x7.gh.trans (x6.gh.trans (x5.gh.trans (x4.gh.trans (x3.gh.trans (x2.gh.trans x1.gh)))))⟩⟩
  have h1 := x1.own _ _ h
  have h2 := x2.own _ _ h1
  have h3 := x3.own _ _ h2
  have h4 := x4.own _ _ h3
  have h5 := x5.own _ _ (fun e => by subst e; rw [h3] at nc2; cases nc2) h4
  have h6 := x6.own _ _ (by
    rintro (rfl | rfl | rfl)
    · rw [h1] at nB; cases nB
    · rw [h1] at nl; cases nl
    · rw [h3] at nT2; cases nT2) h5
  exact x7.own _ _ (fun e => by subst e; rw [h2] at nr1; cases nr1) h6
def okErr (e : Int) : Value := if e = 0 then .nilIface else errV e
set_option maxRecDepth 100000 in
theorem num_k {main : Who} (k : Kn) (e : Int) : CallsK Try.prog main 8 #[okErr e] k fun v k' => v = intV e ∧ k = k' := by
  (refine callsK_of Try.func8 (by first | rfl | kernel_rfl) rfl ?_; simp only [Try.ntmps8, List.size_toArray, List.length_cons, List.length_nil, Nat.reduceAdd, Nat.reduceSub, Array.replicate_succ, Array.replicate_zero, List.push_toArray, List.append_toArray, List.nil_append, List.cons_append])
  by_cases h : e = 0
  · subst h
    simp only [okErr, if_true]
    refine goF ?_
    refine opsK_sure (.bool true) rfl (by rfl) (fun w => by kernel_rfl) (fun w => by kernel_rfl) ?_; walk_nrm
    refine goF ?_
    exact retK1 rfl rfl ⟨rfl, rfl⟩
  · simp only [okErr, h, if_false]
    refine goF ?_
    refine opsK_sure (.bool false) rfl (by rfl) (fun w => by kernel_rfl) (fun w => by kernel_rfl) ?_; walk_nrm
    refine goF ?_
    refine opsK_sure (.tuple #[.int .i64 e, .bool true]) rfl (by rfl) (fun w => by kernel_rfl) (fun w => by kernel_rfl) ?_; walk_nrm
    refine goF ?_
    exact retK1 rfl rfl ⟨rfl, rfl⟩
set_option maxRecDepth 100000 in
set_option maxHeartbeats 4000000 in
theorem ids_k {main : Who} (k : Kn) (v1 v2 : Value) (vs : List Int) (h1 : RoSl k.ro v1 vs.length 1 (vs.map intV)) (h2 : RoSl k.ro v2 vs.length 1 (vs.map intV)) (hn : vs.length < 1099511627776) :
    CallsK Try.prog main 9 #[v1, v2] k fun v k' => v = .bool true ∧ k = k' := by
  obtain ⟨a1, c1, rfl, r1⟩ := h1.at_
  obtain ⟨a2, c2, rfl, r2⟩ := h2.at_
  (refine callsK_of Try.func9 (by first | rfl | kernel_rfl) rfl ?_; simp only [Try.ntmps9, List.size_toArray, List.length_cons, List.length_nil, Nat.reduceAdd, Nat.reduceSub, Array.replicate_succ, Array.replicate_zero, List.push_toArray, List.append_toArray, List.nil_append, List.cons_append])
  have d0 : ((vs.length : Int) != (vs.length : Int)) = false := by simp
  refine goF ?_
  refine wpK_loop (measure fun i => vs.length - i).wf (I := fun i a' k' => k = k' ∧ i ≤ vs.length ∧ ∃ T' : Array Value, a' = ⟨T', []⟩ ∧ T' = #[.slice a1 vs.length c1, .slice a2 vs.length c2, (fun j => T'.getD j undef) 2, (fun j => T'.getD j undef) 3, (fun j => T'.getD j undef) 4, .int .i64 i, (fun j => T'.getD j undef) 6, (fun j => T'.getD j undef) 7, (fun j => T'.getD j undef) 8, (fun j => T'.getD j undef) 9, (fun j => T'.getD j undef) 10, (fun j => T'.getD j undef) 11, (fun j => T'.getD j undef) 12, (fun j => T'.getD j undef) 13, (fun j => T'.getD j undef) 14, (fun j => T'.getD j undef) 15, (fun j => T'.getD j undef) 16, (fun j => T'.getD j undef) 17, (fun j => T'.getD j undef) 18, (fun j => T'.getD j undef) 19, (fun j => T'.getD j undef) 20, (fun j => T'.getD j undef) 21, (fun j => T'.getD j undef) 22, (fun j => T'.getD j undef) 23, (fun j => T'.getD j undef) 24, (fun j => T'.getD j undef) 25]) (x := 0) ⟨rfl, Nat.zero_le _, _, rfl, rfl⟩ ?_
  rintro i _ _ ⟨rfl, hi, T', rfl, hT'⟩
  obtain ⟨y, rfl⟩ : ∃ y : Nat → Value, T' = #[.slice a1 vs.length c1, .slice a2 vs.length c2, y 2, y 3, y 4, .int .i64 i, y 6, y 7, y 8, y 9, y 10, y 11, y 12, y 13, y 14, y 15, y 16, y 17, y 18, y 19, y 20, y 21, y 22, y 23, y 24, y 25] := ⟨fun j => T'.getD j undef, hT'⟩
  clear hT'
  by_cases hlt : i < vs.length
  · have d1 : decide ((i : Int) < (vs.length : Int)) = true := by simp; omega
    obtain ⟨x, hs⟩ : ∃ x, vs[i]? = some x := ⟨vs[i], List.getElem?_eq_getElem hlt⟩
    have hs' : (vs.map intV)[i]? = some (intV x) := by rw [List.getElem?_map, hs]; rfl
    obtain ⟨b, off, rfl, q1⟩ := r1 i _ hs'
    obtain ⟨b', off', rfl, q2⟩ := r2 i _ hs'
    have w1 : IntKind.i64.wrap ((i : Int) + 1) = ((i + 1 : Nat) : Int) := by rw [wr64 (by omega) (by omega)]; rfl
    have d2 : (x != x) = false := by simp
    have sK : k.Grow k := Kn.Grow.refl _
    refine goF ?_
    (refine wpK_region_held (fun k' => k.Grow k') (by kernel_rfl) ?_; simp only [List.size_toArray, List.length_cons, List.length_nil, Nat.reduceAdd, Nat.zero_add])
    refine tkI 0 ?_
    refine tkI 1 ?_
    refine tkI 2 ?_
    refine tkI 3 ?_
    refine tkI 4 ?_
    refine tkI 5 ?_
    refine tkI 6 ?_
    refine tkI 7 ?_
    refine tkI 8 ?_
    simp only [d2]
    (refine anyK_done (by kernel_rfl) ?_ _; simp only [thenK, blockK, if_true, if_false, reduceIte, Nat.reduceEqDiff])
    refine goF ?_
    refine ⟨i + 1, ?_, (by first | rfl | trivial), by omega, _, rfl, rfl⟩
    simp [WellFoundedRelation.rel, measure, invImage, InvImage]; omega
  · have d1 : decide ((i : Int) < (vs.length : Int)) = false := by simp; omega
    refine goF ?_
    exact retK1 rfl rfl ⟨rfl, rfl⟩
end Go.Proofs.Ytacfhfeegalmlaa

/- sync.WaitGroup's Add(1), in company, at a WaitGroup of one's own. -/
namespace Go.Proofs.Ytacfhfeegalmlaa
open Go.Conc
set_option linter.unusedVariables false
set_option linter.unusedSimpArgs false

section
variable {P : Program} {main : Who}
def bodyE (P : Program) (e : FuncId) (m : Mark) (fn : Func) (Post : Value → Kn → Prop) : Exit → Act → Kn → Prop
  | .normal, a, k | .ret, a, k => a.defers = [dcall e #[]] ∧ Trip P (k.said m) (results fn a.tmps) Post
  | _, _, _ => False
theorem retE {e : FuncId} {m : Mark} {f : Func} {Post : Value → Kn → Prop} {x : Exit} {a : Act} {k : Kn} (he : x = .ret ∨ x = .normal) (hr : f.results = #[]) (hd : a.defers = [dcall e #[]]) (hp : Post (.tuple #[]) (k.said m)) : bodyE P e m f Post x a k := by
  rcases he with rfl | rfl <;>
    exact ⟨hd, Trip.still (fun w => results_none hr _ P w) (fun w => events_results_none hr _ _) hp⟩
/-- A body that defers one word to the race detector. -/
theorem callsK_ofE {f e : FuncId} {fn fe : Func} {c : Code} {args : Array Value} {k : Kn} {Post : Value → Kn → Prop} (m : Mark) (hm : ∀ g, m ≠ .extern g) (ht : tameMark m = true) (hf : P.funcs[f]? = some fn) (hname : (fn.name == "runtime.NumGoroutine") = false) (hb : fn.body = some c)
    (hfe : P.funcs[e]? = some fe) (hnm : (fe.name == "runtime.NumGoroutine") = false) (hbe : fe.body.isNone = true) (hn : Extern.findNext fe = none) (he : Extern.find fe = some (fun _ => do mark m; pure Extern.Race.none_))
    (h : c.wpK P main f (bodyE P e m fn Post) { tmps := args ++ Array.replicate (fn.ntmps - args.size) undef, defers := [] } k) : CallsK P main f args k Post := by
  refine ⟨fn, c, hf, hname, hb, fun b cs Stop hbf hk hr => ?_⟩
  have lv : ∀ (a : Act) (k' : Kn) (todo : List Item), a.defers = [dcall e #[]] → Trip P (k'.said m) (results fn a.tmps) Post → GK P main Stop k' (G { b.at a todo with mode := .returning } cs) := by
    intro a k' todo hd hT
    refine GK.mark m ht rfl (fun w => stepG_unwind_entry (v := .tuple #[]) (evs := #[⟨.mark m, false, true⟩]) hd hfe hnm hbe hn he (by simp [Extern.Race.none_]) (by simp) (by simpa using hm)) (hr ⟨a.tmps, []⟩ _ todo rfl hT)
  refine h b [] cs Stop hbf hk fun ex a' k' q => ?_
  cases ex with
  | normal => exact GK.quiet rfl (fun _ => stepG_end) (lv a' k' [] q.1 q.2)
  | ret => exact fun todo => lv a' k' todo q.1 q.2
  | exit id => exact q.elim
  | goto l => exact q.elim
  | panic ch => exact q.elim
  | outgrown => exact q.elim
end
section
variable {P : Program} {main : Who} {fn : FuncId} {Q : Exit → Act → Kn → Prop} {a : Act} {k : Kn} {ops : Array Oper} {i : Nat} {rest : List Nat} {o : Oper} {f : FuncId} {fd : Func} {ats : Array TypeId} {ags : Array Operand}
/-- 'This cell is read': said at a cell of one's own. -/
theorem opsK_saidRead (ho : ops[i]? = some o) (hw : Region.wanted o (yielded ops a.tmps) = true) (hop : o.op = .call { callee := .value (.func f), args := ags, argTypes := ats })
    (hf : P.funcs[f]? = some fd) (hname : (fd.name == "runtime.NumGoroutine") = false) (hb : fd.body.isNone = true) (hn : Extern.findNext fd = none) (he : Extern.find fd = some (Extern.Race.marked .read)) {ad : Addr} (hx : (ags.map a.eval)[0]? = some (.pointer (some ad)))
    (hown : k.own ad.block ≠ none) (h : OpsK P main fn ops rest Q (a.put o.dst (.tuple #[])) k) : OpsK P main fn ops (i :: rest) Q a k :=
  fun b kk cs Stop hbf hk hc => GK.next rfl fun w hs => by
    rw [stepG_markAt .read (by simp) ho hw hk hop hf hname hb hn he hx]
    refine ⟨k, { k.idle hs with evs := fun e he => ?_ }, h b kk cs Stop hbf hk hc⟩
    rw [Array.mem_singleton] at he
    subst he
    obtain ⟨ob, hob⟩ := Option.ne_none_iff_exists'.1 hown
    exact ⟨.inl hown, (Array.getElem?_eq_some_iff.1 (hs.own _ _ hob)).1⟩
theorem opsK_entryPure (v : Value) (ho : ops[i]? = some o) (hw : Region.wanted o (yielded ops a.tmps) = true) (hop : o.op = .call { callee := .value (.func f), args := ags, argTypes := ats })
    (hf : P.funcs[f]? = some fd) (hname : (fd.name == "runtime.NumGoroutine") = false) (hb : fd.body.isNone = true) (hn : Extern.findNext fd = none) (he : Extern.find fd = some (fun _ => Sem.pure v))
    (h : OpsK P main fn ops rest Q (a.put o.dst v) k) : OpsK P main fn ops (i :: rest) Q a k :=
  fun b kk cs Stop hbf hk hc => GK.quiet rfl (fun w => stepG_entry_pure v ho hw hk hop hf hname hb hn he) (h b kk cs Stop hbf hk hc)
end
set_option maxRecDepth 100000 in
theorem uadd_k {main : Who} (k : Kn) (wg : Nat) (x d : Int) (ho : k.own wg = some (Go.ConcR.wgBlock 84 x 0)) :
    CallsK Try.prog main 40 #[.pointer (some ⟨wg, 0, none⟩), .int .u64 d] k fun v k' => v = .int .u64 (IntKind.u64.wrap (x + d)) ∧ k' = k.set wg (Go.ConcR.wgBlock 84 (IntKind.u64.wrap (x + d)) 0) := by
  (refine callsK_of Try.func40 (by first | rfl | kernel_rfl) rfl ?_; simp only [Try.ntmps40, List.size_toArray, List.length_cons, List.length_nil, Nat.reduceAdd, Nat.reduceSub, Array.replicate_succ, Array.replicate_zero, List.push_toArray, List.append_toArray, List.nil_append, List.cons_append])
  refine goF ?_
  refine opsK_addAt .u64 rfl (by rfl) rfl (by rfl) (by kernel_rfl) (by kernel_rfl) (by kernel_rfl) (by rfl) rfl rfl rfl ho (by rfl) ?_
  walk_nrm
  refine goF ?_
  exact retK1 rfl rfl ⟨rfl, rfl⟩
/-- What Add makes of the count. -/
structure AddF (v : Nat) (S V : Int) : Prop where
  es : IntKind.u64.wrap ((v : Int) * Go.ConcR.KK + IntKind.u64.wrap (IntKind.u64.wrap 1 * 4294967296)) = S
  hS : S = ((v + 1 : Nat) : Int) * Go.ConcR.KK
  a1 : S / 4294967296 = V
  hV : V = (v : Int) + 1
  b1 : Go.bits .and .u64 S 2147483648 = 0
  b2 : Go.bits .and .u64 S 2147483647 = 0
theorem addF (v : Nat) (hv : v < 1000) : ∃ S V, AddF v S V := by
  refine ⟨((v + 1 : Nat) : Int) * Go.ConcR.KK, (v : Int) + 1, ?_, rfl, ?_, rfl, ?_, ?_⟩
  · have : IntKind.u64.wrap (IntKind.u64.wrap 1 * 4294967296) = 4294967296 := by decide
    rw [this, IntKind.wrap_u64]; simp only [Go.ConcR.KK]; omega
  · simp only [Go.ConcR.KK]; omega
  · have := Go.ConcN.st_flag (v + 1) 0 (by omega) (by omega); simpa [Go.ConcR.KK] using this
  · have := Go.ConcN.st_waiters (v + 1) 0 (by omega) (by omega); simpa [Go.ConcR.KK] using this
set_option maxRecDepth 100000 in
set_option maxHeartbeats 4000000 in
theorem wgadd_k {main : Who} (k : Kn) (wg v : Nat) (hv : v < 1000) (ho : k.own wg = some (Go.ConcR.wgBlock 84 (v * Go.ConcR.KK) 0)) :
    CallsK Try.prog main 19 #[.pointer (some ⟨wg, 0, none⟩), .int .i64 1] k fun _ k' => k' = k.set wg (Go.ConcR.wgBlock 84 (((v + 1 : Nat) : Int) * Go.ConcR.KK) 0) := by
  refine callsK_ofE (f := 19) (e := 35) .enable (by simp) rfl Try.func19 (by rfl) rfl rfl (by rfl) (by rfl) (by kernel_rfl) (by rfl) ?_
  simp only [Try.ntmps19, List.size_toArray, List.length_cons, List.length_nil, Nat.reduceAdd, Nat.reduceSub, Array.replicate_succ, Array.replicate_zero, List.push_toArray, List.append_toArray, List.nil_append, List.cons_append]
  refine goF ?_
  refine opsK_mark0 .disable (by simp) rfl rfl (by rfl) rfl (by rfl) (by kernel_rfl) (by kernel_rfl) (by kernel_rfl) (by rfl) ?_
  walk_nrm
  refine goF ?_
  refine opsK_defer rfl (by rfl) rfl ?_
  walk_nrm
  refine goF ?_
  refine opsK_entryPure (.bool false) rfl (by rfl) rfl (by rfl) (by kernel_rfl) (by kernel_rfl) (by kernel_rfl) (by rfl) ?_
  walk_nrm
  refine goF ?_
  obtain ⟨S, V, hF⟩ := addF v hv
  refine opsK_callv rfl (by rfl) rfl (by first | (walk_nrm; done) | (walk_nrm; rfl)) (uadd_k (k.said .disable) wg _ _ ho) ?_
  rintro _ _ ⟨rfl, rfl⟩
  rw [hF.es]
  walk_nrm
  have a1 := hF.a1
  have b1 := hF.b1
  have b2 := hF.b2
  have hV : V = (v : Int) + 1 := hF.hV
  have c1 : IntKind.i32.wrap V = V := by rw [IntKind.wrap_i32]; omega
  have c2 : IntKind.u32.wrap 0 = 0 := by decide
  have c3 : IntKind.i32.wrap 1 = 1 := by decide
  have q3 : decide (V < 0) = false := decide_eq_false (by omega)
  have q4 : decide (0 < V) = true := decide_eq_true (by omega)
  have q5 : (V == 0) = false := by simp; omega
  have q6 : decide (V = 0) = false := decide_eq_false (by omega)
  have o1 : ((k.said .disable).set wg (Go.ConcR.wgBlock 84 S 0)).own wg = some (Go.ConcR.wgBlock 84 S 0) := Kn.set_same _ _ _
  have hfin : ((k.said .disable).set wg (Go.ConcR.wgBlock 84 S 0)).said .enable = k.set wg (Go.ConcR.wgBlock 84 (((v + 1 : Nat) : Int) * Go.ConcR.KK) 0) := by rw [← hF.hS]; rfl
  clear hF
  have hv1 : (V = 1 ∧ (V == 1) = true) ∨ ((V == 1) = false ∧ decide (V = 1) = false) := by
    by_cases h : V = 1
    · exact .inl ⟨h, by simp [h]⟩
    · exact .inr ⟨by simp [h], decide_eq_false h⟩
  clear hV
  rcases hv1 with ⟨rfl, q1⟩ | ⟨q1, q2⟩
  · have hh : ((k.said .disable).set wg (Go.ConcR.wgBlock 84 S 0)).Has ⟨wg, 1, none⟩ (.int .u32 0) := Kn.has_own o1 rfl
    refine goF ?_
    refine opsK_unsafe (t := 53) rfl (by rfl) rfl rfl (by kernel_rfl) (by kernel_rfl) (by kernel_rfl) (has_cell hh) ?_
    walk_nrm
    refine opsK_saidRead rfl (by rfl) rfl (by rfl) (by kernel_rfl) (by kernel_rfl) (by kernel_rfl) (by rfl) (by simp [Act.eval]; rfl) (by rw [o1]; simp) ?_
    walk_nrm
    refine goF ?_
    exact retE (.inl rfl) rfl rfl hfin
  · refine goF ?_
    exact retE (.inl rfl) rfl rfl hfin
end Go.Proofs.Ytacfhfeegalmlaa

/- THE PLAIN LAW OF A LIST OF JOBS, and what stands where while they are run. -/
namespace Go.Proofs.Ytacfhfeegalmlaa
open Go.Conc
set_option linter.unusedVariables false
set_option linter.unusedSimpArgs false

/-- What the box holds. -/
structure PS where
  num : Int
  last : ByteArray → Option Int
  ents : Ents
/-- What a job comes to. -/
structure PR where
  saw : List Int
  ver : Int
  err : Int
def lookE (E : Ents) (s : ByteArray) : Int := (getL E s).getD (-1)
def insF (ws : List (ByteArray × Int)) (E : Ents) : Ents := ws.foldl (fun E x => insL x.1 x.2 E) E
theorem insF_srt : ∀ {ws : List (ByteArray × Int)} {E : Ents}, Srt E → Srt (insF ws E)
  | [], _, h => h
  | x :: ws, _, h => insF_srt (ws := ws) (srt_insL h)
theorem snocInd {α : Type} {M : List α → Prop} (h0 : M []) (h1 : ∀ l x, M l → M (l ++ [x])) (l : List α) : M l := by
  have key : ∀ l : List α, M l.reverse := by
    intro l
    induction l with
    | nil => exact h0
    | cons x l ih => rw [List.reverse_cons]; exact h1 _ _ ih
  have := key l.reverse
  rwa [List.reverse_reverse] at this
theorem wrF_gen (ws : List (ByteArray × Int)) (C : ByteArray → Option Int) (s : ByteArray) : ws.foldl (fun C x => updB C x.1 x.2) C s = (wrF ws s).or (C s) := by
  refine snocInd (M := fun ws => ws.foldl (fun C x => updB C x.1 x.2) C s = (wrF ws s).or (C s)) (by simp [wrF]) (fun ws x ih => ?_) ws
  · rw [wrF_snoc]
    simp only [List.foldl_append, List.foldl_cons, List.foldl_nil]
    unfold updB
    split
    · simp
    · exact ih
theorem insF_get {ws : List (ByteArray × Int)} {E : Ents} (h : Srt E) (s : ByteArray) : getL (insF ws E) s = (wrF ws s).or (getL E s) := by
  refine snocInd (M := fun ws => getL (insF ws E) s = (wrF ws s).or (getL E s)) (by simp [insF, wrF]) (fun ws x ih => ?_) ws
  · rw [wrF_snoc]
    have e : insF (ws ++ [x]) E = insL x.1 x.2 (insF ws E) := by simp [insF]
    rw [e, getL_insL (insF_srt h)]
    unfold updB
    split
    · simp
    · exact ih
abbrev JobT := List ByteArray × List (ByteArray × Int) × Int
def badJ (J : JobT) : Prop := ∃ s, (s ∈ J.1 ∨ ∃ x ∈ J.2.1, x.1 = s) ∧ validN s = false
def hitJ (base : PS) (cur : PS) (J : JobT) : Prop := ∃ s, (rdF J.1 s ≠ none ∨ wrF J.2.1 s ≠ none) ∧ base.num < lastN cur.last s
open Classical in
/-- ONE JOB, the i-th, which begins at base, when the box holds cur. -/
noncomputable def stepJ (base cur : PS) (i : Nat) (J : JobT) : PR × PS :=
  if J.2.2 < 0 ∨ (i : Int) < J.2.2 then (⟨[], 0, 1⟩, cur)
  else if badJ J then (⟨[], 0, 13⟩, cur)
  else if ∀ s, wrF J.2.1 s = none then (⟨J.1.map (lookE base.ents), base.num, 0⟩, cur)
  else if hitJ base cur J then (⟨[], 0, 11⟩, cur)
  else (⟨J.1.map (lookE base.ents), cur.num + 1, 0⟩, ⟨cur.num + 1, fun s => if (wrF J.2.1 s).isSome then some (cur.num + 1) else cur.last s, insF J.2.1 cur.ents⟩)
noncomputable def histJ (jobs : List JobT) (E : Ents) : Nat → Nat → PS
  | 0 => fun _ => ⟨0, fun _ => none, E⟩
  | j + 1 => fun x => if x ≤ j then histJ jobs E j x else
    match jobs[j]? with
    | none => histJ jobs E j j
    | some J => (stepJ (histJ jobs E j J.2.2.toNat) (histJ jobs E j j) j J).2
/-- What the box holds behind j jobs. -/
noncomputable def stJ (jobs : List JobT) (E : Ents) (j : Nat) : PS := histJ jobs E j j
theorem histJ_le (jobs : List JobT) (E : Ents) : ∀ {j x : Nat}, x ≤ j → histJ jobs E j x = stJ jobs E x
  | 0, x, h => by obtain rfl : x = 0 := by omega
                  rfl
  | j + 1, x, h => by
    rcases Nat.lt_or_ge j x with h' | h'
    · obtain rfl : x = j + 1 := by omega
      rfl
    · simp only [histJ, h', if_true]
      exact histJ_le jobs E h'
/-- What job j comes to. -/
noncomputable def resJ (jobs : List JobT) (E : Ents) (j : Nat) (J : JobT) : PR := (stepJ (stJ jobs E J.2.2.toNat) (stJ jobs E j) j J).1
theorem stJ_succ (jobs : List JobT) (E : Ents) {j : Nat} {J : JobT} (h : jobs[j]? = some J) : stJ jobs E (j + 1) = (stepJ (stJ jobs E J.2.2.toNat) (stJ jobs E j) j J).2 := by
  have e : stJ jobs E (j + 1) = (stepJ (histJ jobs E j J.2.2.toNat) (histJ jobs E j j) j J).2 := by
    unfold stJ
    simp only [histJ]
    rw [if_neg (by omega), h]
  rw [e, histJ_le jobs E (Nat.le_refl j)]
  by_cases ha : J.2.2 < 0 ∨ (j : Int) < J.2.2
  · unfold stepJ
    simp only [ha, if_true]
  · rw [histJ_le jobs E (by omega)]
theorem stepJ_num (base cur : PS) (i : Nat) (J : JobT) : (stepJ base cur i J).2.num = cur.num ∨ (stepJ base cur i J).2.num = cur.num + 1 := by
  unfold stepJ
  split
  · exact .inl rfl
  split
  · exact .inl rfl
  split
  · exact .inl rfl
  split
  · exact .inl rfl
  · exact .inr rfl
theorem stJ_num (jobs : List JobT) (E : Ents) : ∀ j, 0 ≤ (stJ jobs E j).num ∧ (stJ jobs E j).num ≤ j
  | 0 => ⟨Int.le_refl _, Int.le_refl _⟩
  | j + 1 => by
    have ih := stJ_num jobs E j
    cases h : jobs[j]? with
    | none =>
      have : stJ jobs E (j + 1) = stJ jobs E j := by
        unfold stJ
        simp only [histJ]
        rw [if_neg (by omega), h]
      rw [this]
      omega
    | some J =>
      rw [stJ_succ jobs E h]
      rcases stepJ_num (stJ jobs E J.2.2.toNat) (stJ jobs E j) j J with h | h <;> rw [h] <;> omega
theorem stepJ_srt {base cur : PS} {i : Nat} {J : JobT} (h : Srt cur.ents) : Srt (stepJ base cur i J).2.ents := by
  unfold stepJ
  split
  · exact h
  split
  · exact h
  split
  · exact h
  split
  · exact h
  · exact insF_srt h
theorem stJ_srt {jobs : List JobT} {E : Ents} (h : Srt E) : ∀ j, Srt (stJ jobs E j).ents
  | 0 => h
  | j + 1 => by
    have ih := stJ_srt (jobs := jobs) h j
    cases h : jobs[j]? with
    | none =>
      have : stJ jobs E (j + 1) = stJ jobs E j := by
        unfold stJ
        simp only [histJ]
        rw [if_neg (by omega), h]
      rw [this]
      exact ih
    | some J =>
      rw [stJ_succ jobs E h]
      exact stepJ_srt ih

theorem insL_len (k : ByteArray) (v : Int) : ∀ E : Ents, (insL k v E).length ≤ E.length + 1
  | [] => by simp [insL]
  | x :: E => by
    have := insL_len k v E
    simp only [insL]
    split
    · simp
    · split
      · simp; omega
      · simp
theorem insF_len : ∀ (ws : List (ByteArray × Int)) (E : Ents), (insF ws E).length ≤ E.length + ws.length
  | [], E => by simp [insF]
  | x :: ws, E => by
    have h1 := insF_len ws (insL x.1 x.2 E)
    have h2 := insL_len x.1 x.2 E
    have e : insF (x :: ws) E = insF ws (insL x.1 x.2 E) := rfl
    rw [e]
    simp only [List.length_cons]
    omega
theorem stepJ_len (base cur : PS) (i : Nat) (J : JobT) : (stepJ base cur i J).2.ents.length ≤ cur.ents.length + J.2.1.length := by
  unfold stepJ
  split
  · simp
  split
  · simp
  split
  · simp
  split
  · simp
  · exact insF_len _ _
theorem stJ_len {jobs : List JobT} {E : Ents} {M : Nat} (h : ∀ J ∈ jobs, J.2.1.length < M) : ∀ j, (stJ jobs E j).ents.length ≤ E.length + j * M
  | 0 => by simp [stJ, histJ]
  | j + 1 => by
    have ih := stJ_len (E := E) h j
    cases hj : jobs[j]? with
    | none =>
      have : stJ jobs E (j + 1) = stJ jobs E j := by
        unfold stJ
        simp only [histJ]
        rw [if_neg (by omega), hj]
      rw [this]
      refine Nat.le_trans ih ?_
      simp [Nat.add_mul]
    | some J =>
      rw [stJ_succ jobs E hj]
      have h1 := stepJ_len (stJ jobs E J.2.2.toNat) (stJ jobs E j) j J
      have h2 := h J (List.mem_of_getElem? hj)
      simp only [Nat.add_mul]
      omega

/-! ### what stands in memory -/
/-- The jobs' row. -/
structure JobAt (ro : Addr → Option Value) (b off : Nat) (J : JobT) : Prop where
  at_ : ∃ rv wv, ro ⟨b, off, none⟩ = some rv ∧ ro ⟨b, off + 1, none⟩ = some wv ∧ ro ⟨b, off + 2, none⟩ = some (intV J.2.2) ∧ RoSl ro rv J.1.length 1 (J.1.map .string) ∧ RoSl ro wv J.2.1.length 2 (namedC J.2.1)
theorem JobAt.mono {ro ro' : Addr → Option Value} {b off : Nat} {J : JobT} (h : JobAt ro b off J) (hm : ∀ a u, ro a = some u → ro' a = some u) : JobAt ro' b off J := by
  obtain ⟨rv, wv, h1, h2, h3, h4, h5⟩ := h.at_
  exact ⟨rv, wv, hm _ _ h1, hm _ _ h2, hm _ _ h3, h4.mono hm, h5.mono hm⟩
abbrev RunC.B (X : RunC) := X.blk 0
abbrev RunC.ml (X : RunC) := X.blk 1
abbrev RunC.RB (X : RunC) := X.blk 2
abbrev RunC.VB (X : RunC) := X.blk 3
abbrev RunC.EB (X : RunC) := X.blk 4
abbrev RunC.r (X : RunC) := X.blk 5
noncomputable abbrev RunC.S (X : RunC) (j : Nat) : PS := stJ X.jobs X.ents j
/-- The record r of a call of Run, as it stands. -/
structure RunR (X : RunC) (ro : Addr → Option Value) : Prop where
  box : ro ⟨X.r, 0, none⟩ = some (.pointer (some ⟨X.B, 0, none⟩))
  jobs : ∃ b off c, ro ⟨X.r, 1, none⟩ = some (.slice (some ⟨b, off, none⟩) X.n c) ∧ ∀ j J, X.jobs[j]? = some J → JobAt ro b (off + j * 3) J
  res : ro ⟨X.r, 2, none⟩ = some (.slice (some ⟨X.RB, 0, none⟩) X.n X.n)
  ex : ro ⟨X.r, 3, none⟩ = some (.slice (some ⟨X.EB, 0, none⟩) (X.n + 1) (X.n + 1))
  ver : ro ⟨X.r, 4, none⟩ = some (.slice (some ⟨X.VB, 0, none⟩) (X.n + 1) (X.n + 1))
  chs : ∀ j, j ≤ X.n → ro ⟨X.EB, j, none⟩ = some (.chan (some (X.ex j)))
  len : X.jobs.length = X.n
  small : X.n < 1000
  fit : ∀ J ∈ X.jobs, J.1.length < 1099511627776 ∧ J.2.1.length < 1099511627776
  srt : Srt X.ents
  eln : X.ents.length < 1099511627776
theorem RunR.mono {X : RunC} {ro ro' : Addr → Option Value} (h : RunR X ro) (hm : ∀ a u, ro a = some u → ro' a = some u) : RunR X ro' :=
  ⟨hm _ _ h.box, h.jobs.imp fun b ⟨off, c, h1, h2⟩ => ⟨off, c, hm _ _ h1, fun j J hj => (h2 j J hj).mono hm⟩, hm _ _ h.res, hm _ _ h.ex, hm _ _ h.ver, fun j hj => hm _ _ (h.chs j hj), h.len, h.small, h.fit, h.srt, h.eln⟩
/-- A result. -/
structure ResAt (ro : Addr → Option Value) (c : Array Value) (i : Nat) (R : PR) : Prop where
  at_ : ∃ sv, c[i * 3]? = some sv ∧ c[i * 3 + 1]? = some (intV R.ver) ∧ c[i * 3 + 2]? = some (okErr R.err) ∧ RoSl ro sv R.saw.length 1 (R.saw.map intV)
theorem ResAt.mono {ro ro' : Addr → Option Value} {c : Array Value} {i : Nat} {R : PR} (h : ResAt ro c i R) (hm : ∀ a u, ro a = some u → ro' a = some u) : ResAt ro' c i R := by
  obtain ⟨sv, h1, h2, h3, h4⟩ := h.at_
  exact ⟨sv, h1, h2, h3, h4.mono hm⟩
/-- A version that was committed, as it stands. -/
def VerAt (ro : Addr → Option Value) (b off : Nat) (S : PS) : Prop := ∃ p t, ro ⟨b, off, none⟩ = some (intV S.num) ∧ ro ⟨b, off + 1, none⟩ = some p ∧ TrK ro p t ∧ t.ok ∧ t.ents = S.ents
theorem VerAt.mono {ro ro' : Addr → Option Value} {b off : Nat} {S : PS} (h : VerAt ro b off S) (hm : ∀ a u, ro a = some u → ro' a = some u) : VerAt ro' b off S := by
  obtain ⟨p, t, h1, h2, h3, h4, h5⟩ := h
  exact ⟨p, t, hm _ _ h1, hm _ _ h2, h3.mono hm, h4, h5⟩
def PubK (X : RunC) (j : Nat) (ro : Addr → Option Value) : Prop := VerAt ro X.VB (j * 2) (X.S j)
/-- THE TOKEN: who has it has the box and the results' row, and the versions from m on, which are still to be written. -/
structure TokM (X : RunC) (j m l : Nat) (k : Kn) : Prop where
  box : ∃ p t, k.own X.B = some (.cells (boxC (X.S j).num p (.map (some X.ml))) 64) ∧ TrK k.ro p t ∧ t.ok ∧ t.ents = (X.S j).ents
  last : LastK k X.ml (X.S j).last
  res : ∃ c, k.own X.RB = some (.cells c 38) ∧ c.size = X.n * 3 ∧ ∀ i J, i < l → X.jobs[i]? = some J → ResAt k.ro c i (resJ X.jobs X.ents i J)
  ver : ∀ i, m ≤ i → i ≤ X.n → k.oc ⟨X.VB, i * 2, none⟩ ≠ none ∧ k.oc ⟨X.VB, i * 2 + 1, none⟩ ≠ none
def TokK (X : RunC) (j : Nat) (k : Kn) : Prop := TokM X j (j + 1) j k
theorem TokM.mono {X : RunC} {j m l : Nat} {k k' : Kn} (h : TokM X j m l k) (hm : ∀ a u, k.ro a = some u → k'.ro a = some u) (hB : ∀ o, k.own X.B = some o → k'.own X.B = some o) (hl : ∀ o, k.own X.ml = some o → k'.own X.ml = some o) (hR : ∀ o, k.own X.RB = some o → k'.own X.RB = some o)
    (hv : ∀ i, m ≤ i → i ≤ X.n → k.oc ⟨X.VB, i * 2, none⟩ ≠ none ∧ k.oc ⟨X.VB, i * 2 + 1, none⟩ ≠ none → k'.oc ⟨X.VB, i * 2, none⟩ ≠ none ∧ k'.oc ⟨X.VB, i * 2 + 1, none⟩ ≠ none) : TokM X j m l k' := by
  obtain ⟨p, t, h1, h2, h3, h4⟩ := h.box
  obtain ⟨c, g1, g2, g3⟩ := h.res
  exact ⟨⟨p, t, hB _ h1, h2.mono hm, h3, h4⟩, h.last.ext hl, ⟨c, hR _ g1, g2, fun i J hi hJ => (g3 i J hi hJ).mono hm⟩, fun i h1 h2 => hv i h1 h2 (h.ver i h1 h2)⟩
/-- What a call of Run has in hand. -/
def RunC.Hd (X : RunC) (b : Nat) : Prop := b = X.B ∨ b = X.ml ∨ b = X.RB ∨ ∃ i, i ≤ X.n ∧ b = X.ex i
/-- Our protocol. -/
structure Who.Ours (W : Who) : Prop where
  tok : W.Tok = TokK
  pub : W.Pub = PubK
  wg : W.wgT = 84
end Go.Proofs.Ytacfhfeegalmlaa

/- New views of what one knows; finish, in company. -/
namespace Go.Proofs.Ytacfhfeegalmlaa
open Go.Conc
set_option linter.unusedVariables false
set_option linter.unusedSimpArgs false

section
variable {P : Program} {main : Who} {Stop : Kn → Goroutine → Prop} {k : Kn} {g : Goroutine}
/-- Where no world fits there is nothing to show. -/
theorem GK.sat (hs : g.status = .running) (h : (∃ w, k.Sat w) → GK P main Stop k g) : GK P main Stop k g := by
  by_cases hw : ∃ w, k.Sat w
  · exact h hw
  · exact GK.step (fun _ => k) hs (fun w hk => absurd ⟨w, hk⟩ hw) (fun w _ _ _ hk => absurd ⟨w, hk⟩ hw)
variable {fn : FuncId} {Q : Exit → Act → Kn → Prop} {a : Act} {ops : Array Oper} {rest : List Nat}
theorem opsK_sat (h : (∃ w, k.Sat w) → OpsK P main fn ops rest Q a k) : OpsK P main fn ops rest Q a k :=
  fun b kk cs Stop hb hk hc => GK.sat rfl fun hw => h hw b kk cs Stop hb hk hc
theorem wpK_sat {c : Code} (h : (∃ w, k.Sat w) → c.wpK P main fn Q a k) : c.wpK P main fn Q a k :=
  fun b kk cs Stop hb hk hc => GK.sat rfl fun hw => h hw b kk cs Stop hb hk hc
theorem opsK_turn {k1 : Kn} (ht : k.Turn k1) (h : OpsK P main fn ops rest Q a k1) : OpsK P main fn ops rest Q a k :=
  fun b kk cs Stop hb hk hc => GK.turn ht (h b kk cs Stop hb hk hc)
theorem wpK_turn {c : Code} {k1 : Kn} (ht : k.Turn k1) (h : c.wpK P main fn Q a k1) : c.wpK P main fn Q a k :=
  fun b kk cs Stop hb hk hc => GK.turn ht (h b kk cs Stop hb hk hc)
end
/-- A block of one's own stands from now on. -/
def Kn.stand (k : Kn) (b : Nat) (c : Array Value) : Kn :=
  { k with own := fun x => if x = b then none else k.own x, ro := fun a => if a.block = b ∧ a.spot = none then c[a.off]? else k.ro a }
theorem Kn.stand_turn {k : Kn} {b : Nat} {c : Array Value} {t : TypeId} (hs : ∃ w, k.Sat w) (hb : k.own b = some (.cells c t)) : k.Turn (k.stand b c) := by
  obtain ⟨w, hw⟩ := hs
  have n1 : ∀ a, a.block = b → k.ro a = none := fun a ha => by
    cases h : k.ro a with
    | none => rfl
    | some v => have := hw.ro_own _ _ h; rw [ha, hb] at this; cases this
  have n2 : ∀ a, a.block = b → k.oc a = none := fun a ha => by
    cases h : k.oc a with
    | none => rfl
    | some v => have := hw.oc_own _ _ h; rw [ha, hb] at this; cases this
  refine ⟨fun x o h => ?_, fun a v h => .inl h, fun a v h => ?_, fun a v h => ?_, fun a v h => ?_, rfl, rfl, rfl⟩
  · simp only [Kn.stand] at h
    split at h
    · cases h
    · exact h
  · simp only [Kn.stand] at h ⊢
    split
    · rename_i hc
      rw [n2 a hc.1] at h
      cases h
    · exact hw.oc_ro _ _ h
  · simp only [Kn.stand]
    rw [if_neg (fun hc => by rw [n1 a hc.1] at h; cases h)]
    exact h
  · simp only [Kn.stand] at h ⊢
    split at h
    · rename_i hc
      exact .inr ⟨.inr (.inl ⟨c, t, _, by rw [hc.1]; exact hb, hc.2, h⟩), by simp [hc.1], n2 a hc.1⟩
    · exact .inl h
theorem Kn.stand_ro {k : Kn} {b j : Nat} {c : Array Value} {v : Value} (h : c[j]? = some v) : (k.stand b c).ro ⟨b, j, none⟩ = some v := by simp [Kn.stand, h]
theorem Kn.stand_own {k : Kn} {b x : Nat} {c : Array Value} (h : x ≠ b) : (k.stand b c).own x = k.own x := by simp [Kn.stand, h]
theorem Kn.stand_roK {k : Kn} {b : Nat} {c : Array Value} {t : TypeId} (hs : ∃ w, k.Sat w) (hb : k.own b = some (.cells c t)) {a : Addr} {v : Value} (h : k.ro a = some v) : (k.stand b c).ro a = some v := (Kn.stand_turn hs hb).roK a v h
/-- A block of one's own becomes a row of own cells. -/
def Kn.part (k : Kn) (b : Nat) (c : Array Value) : Kn :=
  { k with own := fun x => if x = b then none else k.own x, oc := fun a => if a.block = b ∧ a.spot = none then c[a.off]? else k.oc a }
theorem Kn.part_turn {k : Kn} {b : Nat} {c : Array Value} {t : TypeId} (hs : ∃ w, k.Sat w) (hb : k.own b = some (.cells c t)) : k.Turn (k.part b c) := by
  obtain ⟨w, hw⟩ := hs
  have n1 : ∀ a, a.block = b → k.ro a = none := fun a ha => by
    cases h : k.ro a with
    | none => rfl
    | some v => have := hw.ro_own _ _ h; rw [ha, hb] at this; cases this
  refine ⟨fun x o h => ?_, fun a v h => ?_, fun a v h => ?_, fun a v h => h, fun a v h => .inl h, rfl, rfl, rfl⟩
  · simp only [Kn.part] at h
    split at h
    · cases h
    · exact h
  · simp only [Kn.part] at h
    split at h
    · rename_i hc
      refine .inr ⟨⟨c, t, ?_, hc.2, h⟩, by simp [Kn.part, hc.1]⟩
      rw [hc.1]
      exact hb
    · exact .inl h
  · simp only [Kn.part] at h ⊢
    split at h
    · rename_i hc
      exact n1 a hc.1
    · exact hw.oc_ro _ _ h
/-- Own cells stand from now on. -/
def Kn.settle (k : Kn) (M : Addr → Bool) : Kn := { k with oc := fun a => if M a then none else k.oc a, ro := fun a => if M a then (k.oc a).or (k.ro a) else k.ro a }
theorem Kn.settle_turn {k : Kn} {M : Addr → Bool} (hs : ∃ w, k.Sat w) : k.Turn (k.settle M) := by
  obtain ⟨w, hw⟩ := hs
  refine ⟨fun x o h => h, fun a v h => ?_, fun a v h => ?_, fun a v h => ?_, fun a v h => ?_, rfl, rfl, rfl⟩
  · simp only [Kn.settle] at h
    split at h
    · cases h
    · exact .inl h
  · simp only [Kn.settle] at h ⊢
    split at h
    · cases h
    · rename_i hc
      rw [if_neg hc]
      exact hw.oc_ro _ _ h
  · simp only [Kn.settle]
    split
    · cases e : k.oc a with
      | none => exact h
      | some u => have := hw.oc_ro _ _ e; rw [h] at this; cases this
    · exact h
  · simp only [Kn.settle] at h ⊢
    split at h
    · rename_i hc
      cases e : k.oc a with
      | none => rw [e] at h; exact .inl h
      | some u =>
        rw [e] at h
        obtain rfl : u = v := Option.some.inj h
        exact .inr ⟨.inr (.inr e), hw.oc_own _ _ e, by simp [hc]⟩
    · exact .inl h
section
variable {P : Program} {main : Who} {fn : FuncId} {Q : Exit → Act → Kn → Prop} {S : Kn → Prop} {md : Region.Mode} {a : Act} {k : Kn} {ops : Array Oper} {i : Nat} {rest : List Nat} {o : Oper}
theorem mayWake_op {b : Frame} {kk : List Item} {cs : List Frame} {bf : Builtin} {args : Array Operand} {ats : Array TypeId} (ho : ops[i]? = some o) (hop : o.op = .call { callee := .builtin bf, args := args, argTypes := ats }) : mayWake P (G (b.at a (.inRegion ops (i :: rest) :: kk)) cs) = true := by
  simp [mayWake, G, Frame.at, ho, hop]
theorem opsK_closeE {x : Operand} {ats : Array TypeId} {X : RunC} {j : Nat} {k1 kt : Kn} {gh' : Gh} (ho : ops[i]? = some o) (hw : Region.wanted o (yielded ops a.tmps) = true) (hop : o.op = .call { callee := .builtin .close, args := #[x], argTypes := ats })
    (hx : a.eval x = .chan (some (X.ex j))) (hq : (P.funcs[fn]?).any (·.norace) = false) (hC : Closes k X j k1 kt gh') (hd : k.deaf = 0) (hsp : k.Split k1 kt) (hT : main.Tok X j kt) (hP : main.Pub X j k.ro)
    (h : OpsK P main fn ops rest Q (a.put o.dst (.tuple #[])) { k1 with gh := gh' }) : OpsK P main fn ops (i :: rest) Q a k :=
  fun b kk cs Stop hb hk hc => GK.closeE X j gh' hC hd rfl (mayWake_op ho hop) hsp hT hP (fun w hs hch => stepG_close ho hw hk hop hx hch (by rw [hb]; exact hq)) (h b kk cs Stop hb hk hc)
theorem exec_storeC2 {t : TypeId} {x y : Operand} {b off : Nat} {u v : Value} {K : Act → Kn → Prop} (hop : o.op = .store t x y) (hx : a.eval x = .pointer (some ⟨b, off, none⟩)) (hy : a.eval y = .agg #[u, v])
    (hsz : ∀ w, (Go.sizeOf t).run P w = .ok 2 w) (hu : u.oneCell' = true) (hv : v.oneCell' = true) (h1 : k.oc ⟨b, off, none⟩ ≠ none) (h2 : k.oc ⟨b, off + 1, none⟩ ≠ none)
    (h : K (a.put o.dst undef) ((k.setc ⟨b, off, none⟩ u).setc ⟨b, off + 1, none⟩ v)) : Trip P k (execOp a.eval o) (nextA K a o.dst) := by
  obtain ⟨u0, h1⟩ := Option.ne_none_iff_exists'.1 h1
  obtain ⟨v0, h2⟩ := Option.ne_none_iff_exists'.1 h2
  unfold execOp
  simp only [hop, hx, hy, Instr.storeAt, Instr.sureAddr]
  refine Trip.bind (Trip.bind (Trip.pure ?_))
  unfold Go.storeVar
  refine Trip.bind (Trip.sizeOf hsz ?_)
  simp only [Value.cells, List.size_toArray, List.length_cons, List.length_nil, Nat.reduceAdd, ne_eq, not_true_eq_false, if_false, storeCells]
  have e0 : (⟨b, off, none⟩ : Addr).add 0 = ⟨b, off, none⟩ := rfl
  have e1 : (⟨b, off, none⟩ : Addr).add 1 = ⟨b, off + 1, none⟩ := rfl
  rw [e0, e1]
  refine Trip.bind (Trip.storeC h1 hu (Trip.bind (Trip.storeC (u := v0) ?_ hv (Trip.pure (Trip.pure h)))))
  rw [Kn.setc_ne _ _ (by simp)]
  exact h2
end
/-- What stands there stands here. -/
structure Kn.RoLe (k k' : Kn) : Prop where
  ro : ∀ a v, k.ro a = some v → k'.ro a = some v
theorem Kn.RoLe.refl (k : Kn) : k.RoLe k := ⟨fun _ _ h => h⟩
/-- Who may close channel j. -/
inductive FinG (X : RunC) (j : Nat) (k : Kn) : Gh → Prop
  | main {b : Nat} : k.gh = .lone b → j = 0 → (∀ i, i ≤ X.n → k.own (X.ex i) = some chanO) → (∀ i i', i ≤ X.n → i' ≤ X.n → X.ex i = X.ex i' → i = i') → FinG X j k (.run X b)
  | wk {q wg left i : Nat} : k.gh = .wk X q wg left (.job i true) → j = i + 1 → FinG X j k (.wk X q wg left .idle)
open Classical in
noncomputable def Kn.give (k : Kn) (X : RunC) : Kn := { k with own := fun b => if X.Hd b then none else k.own b, oc := fun _ => none }
open Classical in
noncomputable def Kn.hand (k : Kn) (X : RunC) : Kn := { k with own := fun b => if b = X.B ∨ b = X.ml ∨ b = X.RB then k.own b else none }
theorem give_split (k : Kn) (X : RunC) : k.Split (k.give X) (k.hand X) := by
  refine ⟨fun b o h => ?_, fun b o h => ?_, fun a v h => ?_, fun a v h => h, rfl, rfl, rfl, rfl⟩
  · simp only [Kn.give] at h
    split at h
    · cases h
    · rename_i hn
      refine ⟨h, ?_⟩
      simp only [Kn.hand]
      rw [if_neg (fun e => hn (by rcases e with e | e | e <;> simp [RunC.Hd, e]))]
  · simp only [Kn.hand] at h
    split at h
    · exact h
    · cases h
  · cases h
set_option maxRecDepth 100000 in
set_option maxHeartbeats 2000000 in
theorem finish_k {main : Who} (hO : main.Ours) (k : Kn) (X : RunC) (j : Nat) (gh' : Gh) (hX : RunR X k.ro) (hj : j ≤ X.n) (hT : TokM X j j j k) (hG : FinG X j k gh') (hd : k.deaf = 0) :
    CallsK Try.prog main 18 #[.pointer (some ⟨X.r, 0, none⟩), .int .i64 j] k fun _ k' => (∀ a v, k.ro a = some v → k'.ro a = some v) ∧ (∀ b o, ¬ X.Hd b → k.own b = some o → k'.own b = some o) ∧ k'.oc = (fun _ => none) ∧ k'.deaf = 0 ∧ k'.live = k.live ∧ k'.gh = gh' := by
  obtain ⟨p, t, hB, hp, ot, et⟩ := hT.box
  obtain ⟨pp, rfl⟩ := hp.ptr
  have r0 := hX.box
  have r3 := hX.ex
  have r4 := hX.ver
  have rc := hX.chs j hj
  obtain ⟨N, hN⟩ : ∃ N, N = X.n + 1 := ⟨_, rfl⟩
  rw [← hN] at r3 r4
  have hlt : j < N := by omega
  clear hN
  (refine callsK_of Try.func18 (by first | rfl | kernel_rfl) rfl ?_; simp only [Try.ntmps18, List.size_toArray, List.length_cons, List.length_nil, Nat.reduceAdd, Nat.reduceSub, Array.replicate_succ, Array.replicate_zero, List.push_toArray, List.append_toArray, List.nil_append, List.cons_append])
  (first | apply wpK_seq | apply wpK_block | apply wpK_skip | apply wpK_label | apply wpK_ret | apply wpK_exit | apply opsK_nil)
  have s1 := Kn.RoLe.refl k
  (refine wpK_region_held (fun k' => k.RoLe k') (by kernel_rfl) ?_; simp only [List.size_toArray, List.length_cons, List.length_nil, Nat.reduceAdd, Nat.zero_add])
  refine tkI 0 ?_
  refine tkI 1 ?_
  refine tkI 2 ?_
  refine tkI 3 ?_
  refine tkI 4 ?_
  refine tkI 5 ?_
  refine tkI 6 ?_
  refine tkI 7 ?_
  refine tkI 8 ?_
  refine anyK_call 9 (by kernel_rfl) rfl (by rfl) rfl (by walk_nrm) (committed_k k X.B _ _ _ ⟨_, rfl⟩ ⟨_, rfl⟩ hB) ?_
  rintro _ k2 ⟨rfl, x2⟩
  refine ⟨⟨x2.ro⟩, ?_⟩
  have s2 : k.RoLe k2 := ⟨x2.ro⟩
  walk_nrm
  refine tkF 10 ?_
  obtain ⟨v1, v2⟩ := hT.ver j (Nat.le_refl _) hj
  rw [← x2.oc] at v1 v2
  refine anyK_trip 11 (by kernel_rfl) rfl (by rfl) (exec_storeC2 (b := X.VB) (off := j * 2) (u := intV (X.S j).num) (v := .pointer pp) rfl rfl rfl (fun w => by kernel_rfl) rfl rfl v1 v2 ?_)
  generalize hk3 : (k2.setc ⟨X.VB, j * 2, none⟩ (intV (X.S j).num)).setc ⟨X.VB, j * 2 + 1, none⟩ (.pointer pp) = k3
  have c1 : k3.oc ⟨X.VB, j * 2, none⟩ = some (intV (X.S j).num) := by rw [← hk3, Kn.setc_ne _ _ (by simp), Kn.setc_same]
  have c2 : k3.oc ⟨X.VB, j * 2 + 1, none⟩ = some (.pointer pp) := by rw [← hk3, Kn.setc_same]
  have c3 : ∀ x, x ≠ ⟨X.VB, j * 2, none⟩ → x ≠ ⟨X.VB, j * 2 + 1, none⟩ → k3.oc x = k.oc x := fun x h1 h2 => by rw [← hk3, Kn.setc_ne _ _ h2, Kn.setc_ne _ _ h1, x2.oc]
  have e3 : k3.ro = k2.ro ∧ k3.own = k2.own ∧ k3.deaf = k2.deaf ∧ k3.live = k2.live ∧ k3.gh = k2.gh := by rw [← hk3]; exact ⟨rfl, rfl, rfl, rfl, rfl⟩
  obtain ⟨e31, e32, e33, e34, e35⟩ := e3
  have hT3 : TrK k3.ro (.pointer pp) t := by rw [e31]; exact hp.mono x2.ro
  refine ⟨⟨fun a v h => by rw [e31]; exact x2.ro a v h⟩, ?_⟩
  (refine anyK_done (by kernel_rfl) ?_ _; simp only [thenK, blockK, if_true, if_false, reduceIte, Nat.reduceEqDiff])
  refine wpK_sat fun hs => ?_
  refine wpK_turn (Kn.settle_turn (M := fun a => decide (a = ⟨X.VB, j * 2, none⟩ ∨ a = ⟨X.VB, j * 2 + 1, none⟩)) hs) ?_
  have tro := (Kn.settle_turn (M := fun a => decide (a = ⟨X.VB, j * 2, none⟩ ∨ a = ⟨X.VB, j * 2 + 1, none⟩)) hs).roK
  generalize hk4 : k3.settle _ = k4 at tro
  have g1 : k4.ro ⟨X.VB, j * 2, none⟩ = some (intV (X.S j).num) := by rw [← hk4]; simp [Kn.settle, c1]
  have g2 : k4.ro ⟨X.VB, j * 2 + 1, none⟩ = some (.pointer pp) := by rw [← hk4]; simp [Kn.settle, c2]
  have g3 : ∀ x, x ≠ ⟨X.VB, j * 2, none⟩ → x ≠ ⟨X.VB, j * 2 + 1, none⟩ → k4.oc x = k.oc x := fun x h1 h2 => by rw [← c3 x h1 h2, ← hk4]; simp [Kn.settle, h1, h2]
  have e4 : k4.own = k2.own ∧ k4.deaf = k.deaf ∧ k4.live = k.live ∧ k4.gh = k.gh := by rw [← hk4]; exact ⟨e32, e33.trans x2.deaf, e34.trans x2.live, e35.trans x2.gh⟩
  obtain ⟨e41, e42, e43, e44⟩ := e4
  have ro4 : ∀ a v, k.ro a = some v → k4.ro a = some v := fun a v h => tro _ _ (by rw [e31]; exact x2.ro a v h)
  have hPub : PubK X j k4.ro := ⟨_, t, g1, g2, hT3.mono tro, ot, et⟩
  have hTok : TokK X j (k4.hand X) := by
    refine TokM.mono (m := j + 1) (l := j) (k := k) ⟨⟨_, t, hB, hp, ot, et⟩, hT.last, hT.res, fun i h1 h2 => hT.ver i (by omega) h2⟩ ro4 (fun o h => ?_) (fun o h => ?_) (fun o h => ?_) (fun i h1 h2 ⟨h3, h4⟩ => ?_)
    · simp only [Kn.hand, true_or, if_true]; rw [e41]; exact x2.own _ _ h
    · simp only [Kn.hand, true_or, or_true, if_true]; rw [e41]; exact x2.own _ _ h
    · simp only [Kn.hand, or_true, if_true]; rw [e41]; exact x2.own _ _ h
    · have h5 : ∀ x y : Nat, x ≠ y → (⟨X.VB, x, none⟩ : Addr) ≠ ⟨X.VB, y, none⟩ := fun x y h e => h (by injection e)
      simp only [Kn.hand]
      rw [g3 _ (h5 _ _ (by omega)) (h5 _ _ (by omega)), g3 _ (h5 _ _ (by omega)) (h5 _ _ (by omega))]
      exact ⟨h3, h4⟩
  have q0 : k4.Has ⟨X.r, 3, none⟩ (.slice (some ⟨X.EB, 0, none⟩) N N) := .inl (ro4 _ _ r3)
  have q1 : k4.Has ⟨X.EB, j, none⟩ (.chan (some (X.ex j))) := .inl (ro4 _ _ rc)
  have hC : Closes k4 X j (k4.give X) (k4.hand X) gh' := by
    cases hG with
    | main h1 h2 h3 h4 =>
      refine .main (by rw [e44]; exact h1) h2 (fun i hi => ⟨by rw [e41]; exact x2.own _ _ (h3 i hi), ?_, ?_⟩) h4
      · simp only [Kn.give]
        rw [if_pos (.inr (.inr (.inr ⟨i, hi, rfl⟩)))]
      · have := h3 i hi
        obtain ⟨es, cl, l1, _⟩ := hT.last.at_
        obtain ⟨cr, l2, _⟩ := hT.res
        simp only [Kn.hand]
        rw [if_neg]
        rintro (e | e | e) <;> rw [e] at this
        · rw [hB] at this; cases this
        · rw [l1] at this; cases this
        · rw [l2] at this; cases this
    | wk h1 h2 => exact .wk (by rw [e44]; exact h1) h2
  have keep : ∀ b o, ¬ X.Hd b → k.own b = some o → (k4.give X).own b = some o := fun b o hn h => by
    simp only [Kn.give]
    rw [if_neg hn, e41]
    exact x2.own _ _ h
  repeat (first | (apply wpK_region; simp only [List.size_toArray, List.length_cons, List.length_nil, Nat.reduceAdd, Nat.zero_add, List.range, List.range.loop]) | ((first | refine opsK_max rfl (by rfl) rfl rfl rfl ?_ | refine opsK_eqNil rfl (by rfl) rfl rfl (by kernel_rfl) ?_ | refine opsK_neNil rfl (by rfl) rfl rfl (by kernel_rfl) ?_); try simp only [Option.isNone_none, Option.isNone_some, Bool.not_true, Bool.not_false]; try walk_nrm) | (co_applyP opsK_pure_k rfl (by rfl) ?_ ?_ ?_; (focus (intro _ K hK; go_simp; exact hK)); (focus (first | (exact fun _ => ev_int rfl rfl rfl rfl) | (exact fun _ => ev_str rfl rfl rfl) | (exact fun _ => ev_build rfl) | (exact fun _ => ev_lenS rfl rfl) | (exact fun _ => ev_lenL rfl rfl) | (exact fun _ => ev_mkI rfl) | (intro _; simp [go_sem, *]; done))); try walk_nrm) | (co_applyP opsK_load1 rfl (by rfl) rfl rfl ?_ ?_ ?_; (focus (intro _; go_simp)); (focus (first | exact q0 | exact q1)); try walk_nrm) | ((first | apply wpK_seq | apply wpK_block | apply wpK_skip | apply wpK_label | apply wpK_ret | apply wpK_exit | apply opsK_nil); try simp only [thenK, blockK, if_true, if_false, reduceIte, Nat.reduceEqDiff]) | (refine wpK_cond rfl ?_; simp only [if_true, if_false, reduceIte, Bool.false_eq_true]) | (refine opsK_unwanted rfl (by rfl) ?_; try walk_nrm))
  refine opsK_closeE rfl (by rfl) rfl rfl (by kernel_rfl) hC (by rw [e42]; exact hd) (give_split k4 X) (by rw [hO.tok]; exact hTok) (by rw [hO.pub]; exact hPub) ?_
  refine goF ?_
  exact retK0 (.inr rfl) rfl rfl ⟨ro4, keep, rfl, e42.trans hd, e43, rfl⟩
end Go.Proofs.Ytacfhfeegalmlaa
