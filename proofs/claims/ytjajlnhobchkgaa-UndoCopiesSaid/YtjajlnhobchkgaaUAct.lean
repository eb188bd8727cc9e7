/-
  a script's calls as an argument; what every call keeps; do and begun.
-/
import Derived.Test.YtjajlnhobchkgaaUBin
import Derived.Test.YtjajlnhobchkgaaUNoneW
import Derived.Test.YtjajlnhobchkgaaOpen1
import Derived.Deep.Strs
namespace Go.Proofs.Ytjajlnhobchkgaa
open Go.RowKit Go.ChangeShapes Go.WideShapes Go.Deep Go.Joins
set_option linter.unusedVariables false
set_option linter.unusedSimpArgs false

abbrev Ac := Int × Int × Int

structure RdA (w : World) (a : Option Addr) (n : Nat) (L : List Ac) : Prop where
  len : L.length = n
  max : n ≤ 9223372036854775807
  cell : ∀ i x, L[i]? = some x → ∃ b off, a = some ⟨b, off, none⟩ ∧ w.cell? ⟨b, off + i * 3, none⟩ = some (.int .i64 x.1) ∧ w.cell? ⟨b, off + i * 3 + 1, none⟩ = some (.int .i64 x.2.1) ∧ w.cell? ⟨b, off + i * 3 + 2, none⟩ = some (.int .i64 x.2.2)
  wf : ∀ x ∈ L, (Lit.int .i64 x.1).wf = true ∧ (Lit.int .i64 x.2.1).wf = true ∧ (Lit.int .i64 x.2.2).wf = true

theorem RdA.below {w w' : World} {a n L} (h : RdA w a n L) (hb : Below w.heap.size w w') : RdA w' a n L :=
  ⟨h.len, h.max, fun i x hx => by
    obtain ⟨b, off, ha, h1, h2, h3⟩ := h.cell i x hx
    exact ⟨b, off, ha, below_cell hb h1, below_cell hb h2, below_cell hb h3⟩, h.wf⟩

section
variable {H : Type} {enc : TypeId × Value → H} {W : World}

theorem cells_act {n : Nat} {cs : List Value} {y : DataW H × List MemPlace} (h : DataW.trod enc Try.prog W 0 (fun _ => true) true n 39 cs = some y) :
    ∃ k d t, cs = [.int .i64 k, .int .i64 d, .int .i64 t] ∧ (Lit.int .i64 k).wf = true ∧ (Lit.int .i64 d).wf = true ∧ (Lit.int .i64 t).wf = true := by
  obtain ⟨y0, y1, y2, m, _, hlen, h0, h1, h2⟩ := trod_struct3 Try.underlying39 h
  rw [show Try.prog.cellsOf 39 = 3 by kernel_rfl] at hlen
  match cs, hlen with
  | [c0, c1, c2], _ =>
    rw [show Try.prog.cellsOf 3 = 1 by kernel_rfl] at h0 h1
    rw [show Try.prog.cellsOf 32 = 1 by kernel_rfl] at h2
    have h0 : DataW.trod enc Try.prog W 0 (fun _ => true) true m 3 [c0] = some y0 := h0
    have h1 : DataW.trod enc Try.prog W 0 (fun _ => true) true m 3 [c1] = some y1 := h1
    have h2 : DataW.trod enc Try.prog W 0 (fun _ => true) true m 32 [c2] = some y2 := h2
    obtain ⟨k, d1, _, d3⟩ := DataW.trod_int Try.underlying3 h0
    obtain ⟨d, e1, _, e3⟩ := DataW.trod_int Try.underlying3 h1
    obtain ⟨t, f1, _, f3⟩ := DataW.trod_int Try.underlying32 h2
    refine ⟨k, d, t, ?_, d3, e3, f3⟩
    simp only [List.cons.injEq, and_true] at d1 e1 f1
    rw [d1, e1, f1]

theorem open_acts {a : Option Addr} {len cap : Nat} {d : DataW H} {p : List MemPlace} (h : DataW.Trod enc Try.prog W 0 (fun _ => true) true 22 (.slice a len cap) d p) :
    ∃ L, RdA W a len L ∧ len ≤ cap := by
  obtain ⟨fuel, hf⟩ := h
  rcases open_slice Try.underlying22 hf with ⟨hcs, hx⟩ | ⟨x, l, c', m, n, D, Pl, hcs, _, hl, hm, hmm, hx, hel⟩
  · simp [Value.cells] at hcs
    obtain ⟨rfl, rfl, rfl⟩ := hcs
    exact ⟨[], ⟨rfl, by omega, fun i x hx => by simp at hx, fun x hx => by simp at hx⟩, Nat.le_refl _⟩
  · simp [Value.cells] at hcs
    obtain ⟨rfl, rfl, rfl⟩ := hcs
    simp only [if_true] at hmm
    subst hmm
    rw [show Try.prog.cellsOf 39 = 3 by kernel_rfl] at hel
    have each : ∀ i, i < len → ∃ y : Ac, W.cell? (x.add (i * 3)) = some (.int .i64 y.1) ∧ W.cell? ((x.add (i * 3)).add 1) = some (.int .i64 y.2.1) ∧ W.cell? ((x.add (i * 3)).add 2) = some (.int .i64 y.2.2) ∧
        (Lit.int .i64 y.1).wf = true ∧ (Lit.int .i64 y.2.1).wf = true ∧ (Lit.int .i64 y.2.2).wf = true := by
      intro i hi
      obtain ⟨cs', hc, ht⟩ := hel i (by omega)
      obtain ⟨k, d, t, rfl, h1, h2, h3⟩ := cells_act ht
      obtain ⟨_, _, hat⟩ := World.cells?_some hc
      have a0 := hat 0 (by omega)
      rw [show (x.add (i * 3)).add 0 = x.add (i * 3) from rfl] at a0
      exact ⟨(k, d, t), a0, hat 1 (by omega), hat 2 (by omega), h1, h2, h3⟩
    obtain ⟨f, hf⟩ := choose_lt each
    refine ⟨(List.range len).map f, ⟨by simp, by unfold maxLen at hm; omega, fun i z hz => ?_, fun z hz => ?_⟩, hl⟩
    · rw [List.getElem?_map, Option.map_eq_some_iff] at hz
      obtain ⟨j, hj, rfl⟩ := hz
      have hil : i < len := by have := (List.getElem?_eq_some_iff.1 hj).1; simpa using this
      have : j = i := by simpa [hil] using hj.symm
      subst this
      obtain ⟨b, off, rfl⟩ := spot_none (show W.cell? (x.add 0) = some (.int .i64 (f 0).1) from by have := (hf 0 (by omega)).1; rwa [Nat.zero_mul] at this)
      obtain ⟨c0, c1, c2, _, _, _⟩ := hf j hil
      rw [Addr.add_lit] at c0 c1 c2
      rw [Addr.add_lit] at c1 c2
      exact ⟨b, off, rfl, c0, c1, c2⟩
    · obtain ⟨i, hi, rfl⟩ := List.mem_map.1 hz
      have := hf i (by simpa using hi)
      exact this.2.2.2
end

/-- a tree of at most m nodes, as calls leave it -/
def Good (bt m : Nat) (w0 w : World) : Prop := ∃ (S : Nat → Prop) (l : List Nd) (now : Nat), TI w S bt l now ∧ WfT l ∧ Lead l now ∧ now < l.length ∧ l.length ≤ m ∧ (∀ i, S i → w0.heap.size ≤ i) ∧ Below w0.heap.size w0 w

theorem Good.mono {bt m m' w0 w} (h : Good bt m w0 w) (hm : m ≤ m') : Good bt m' w0 w := by
  obtain ⟨S, l, now, h1, h2, h3, h4, h5, h6, h7⟩ := h
  exact ⟨S, l, now, h1, h2, h3, h4, by omega, h6, h7⟩
theorem Good.below {bt m w0 w w'} (h : Good bt m w0 w) (hb : Below w.heap.size w w') : Good bt m w0 w' := by
  obtain ⟨S, l, now, h1, h2, h3, h4, h5, h6, h7⟩ := h
  exact ⟨S, l, now, h1.below hb, h2, h3, h4, h5, h6, h7.trans (hb.mono h7.size)⟩

theorem Lead.inv {l : List Nd} {v : Nat} (h : Lead l v) : v = 0 ∨ ∃ p x y, l[v]? = some x ∧ x.parent = (p : Nat) ∧ l[p]? = some y ∧ y.pref = v ∧ p < v ∧ Lead l p := by
  cases h with
  | root => exact .inl rfl
  | step h1 h2 h3 h4 h5 h6 => exact .inr ⟨_, _, _, h1, h2, h3, h4, h5, h6⟩
theorem lead_setPref {l : List Nd} {v : Nat} (h : Lead l v) (i : Nat) (c : Int) : v ≤ i → Lead (setPref l i c) v := by
  induction h with
  | root => intro _; exact .root
  | @step p v a b h1 h2 h3 h4 h5 _ ih =>
    intro hv
    have e3 := setPref_get (i := i) (v := c) h3
    rw [if_neg (by omega)] at e3
    refine .step (setPref_get h1) ?_ e3 h4 h5 (ih (by omega))
    split <;> exact h2

theorem undo_good (bt m : Nat) (w0 w : World) (h : Good bt m w0 w) (hm : m ≤ 1000) :
    Calls Try.prog 10 #[.pointer (some ⟨bt, 0, none⟩)] w fun e w' => (∃ v, e = .returned v) ∧ Good bt m w0 w' := by
  obtain ⟨S, l, now, h1, h2, h3, h4, h5, h6, h7⟩ := h
  rcases h3.inv with rfl | ⟨p, x, y, e1, e2, e3, e4, e5, e6⟩
  · refine (undo_root S bt l w h1 h4).mono ?_
    rintro e w' ⟨rfl, rfl⟩
    exact ⟨⟨_, rfl⟩, S, l, 0, h1, h2, h3, h4, h5, h6, h7⟩
  · refine (undo_ok S bt l now w h1 x e1 (by omega) (by omega)).mono ?_
    rintro e w' ⟨rfl, ht, hf⟩
    rw [e2] at ht
    exact ⟨⟨_, rfl⟩, S, l, p, ht, h2, e6, by omega, h5, h6, h7.trans (hf.below h6 h7.size)⟩

theorem redo_good (bt m : Nat) (w0 w : World) (h : Good bt m w0 w) (hm : m ≤ 1000) :
    Calls Try.prog 11 #[.pointer (some ⟨bt, 0, none⟩)] w fun e w' => (∃ v, e = .returned v) ∧ Good bt m w0 w' := by
  obtain ⟨S, l, now, h1, h2, h3, h4, h5, h6, h7⟩ := h
  have hx := List.getElem?_eq_getElem h4
  by_cases h0 : 0 ≤ l[now].pref
  · obtain ⟨c, e1, e2, e3⟩ := redo_lead h2 hx h3 h0
    refine (redo_ok S bt l now w h1 _ hx (by omega) h0).mono ?_
    rintro e w' ⟨rfl, ht, hf⟩
    rw [e1] at ht
    exact ⟨⟨_, rfl⟩, S, l, c, ht, h2, e3, e2, h5, h6, h7.trans (hf.below h6 h7.size)⟩
  · refine (redo_no S bt l now w h1 _ hx (by omega) (by omega)).mono ?_
    rintro e w' ⟨rfl, hb⟩
    exact ⟨⟨_, rfl⟩, Good.below (bt := bt) (m := m) ⟨S, l, now, h1, h2, h3, h4, h5, h6, h7⟩ hb⟩

theorem redoto_good (bt m : Nat) (v : Int) (w0 w : World) (h : Good bt m w0 w) (hm : m ≤ 1000) :
    Calls Try.prog 32 #[.pointer (some ⟨bt, 0, none⟩), .int .i64 v] w fun e w' => (∃ v, e = .returned v) ∧ Good bt m w0 w' := by
  obtain ⟨S, l, now, h1, h2, h3, h4, h5, h6, h7⟩ := h
  have hx := List.getElem?_eq_getElem h4
  refine (redoto_any S bt l now v w h1 h2 _ hx (by omega)).mono ?_
  rintro e w' ⟨k1, k2⟩
  cases hm : memB l[now].kids v with
  | true =>
    obtain ⟨rfl, ht, hf⟩ := k1 hm
    have hmem : v ∈ l[now].kids := by simpa [memB] using hm
    obtain ⟨c, y, rfl, hy, hyp⟩ := ((h2.kids now _ hx).2 v).1 hmem
    have hlt := WfT.lt hy
    have hnc : now < c := by
      rcases Nat.eq_zero_or_pos c with e | e
      · subst e; have := (h2.root y hy).1; omega
      · obtain ⟨p, q, f1, f2, _, _⟩ := h2.par c y hy e; omega
    have e1 := setPref_get (i := now) (v := (c : Int)) hy
    have e2 := setPref_get (i := now) (v := (c : Int)) hx
    rw [if_neg (by omega)] at e1
    rw [if_pos rfl] at e2
    exact ⟨⟨_, rfl⟩, S, setPref l now c, c, ht, h2.setPref hy hyp, .step e1 hyp e2 rfl hnc (lead_setPref h3 now c (Nat.le_refl _)), by rw [setPref_len]; exact hlt, by rw [setPref_len]; exact h5, h6, h7.trans (hf.below h6 h7.size)⟩
  | false =>
    obtain ⟨rfl, hb⟩ := k2 hm
    exact ⟨⟨_, rfl⟩, Good.below (bt := bt) (m := m) ⟨S, l, now, h1, h2, h3, h4, h5, h6, h7⟩ hb⟩

theorem goto_good (bt m : Nat) (v : Int) (w0 w : World) (h : Good bt m w0 w) (hm : m ≤ 1000) :
    Calls Try.prog 25 #[.pointer (some ⟨bt, 0, none⟩), .int .i64 v] w fun e w' => (∃ v, e = .returned v) ∧ Good bt m w0 w' := by
  obtain ⟨S, l, now, h1, h2, h3, h4, h5, h6, h7⟩ := h
  by_cases hv : 0 ≤ v ∧ v < (l.length : Int)
  · obtain ⟨c, rfl⟩ := Int.eq_ofNat_of_zero_le hv.1
    have hc : c < l.length := by omega
    obtain ⟨k1, k2⟩ := gotoP_wf c h2 c hc
    refine (goto_ok S bt l now c w h1 h2 (by omega) hc).mono ?_
    rintro e w' ⟨rfl, ht, hf⟩
    exact ⟨⟨_, rfl⟩, S, gotoP c l c, c, ht, k1, gotoP_lead c h2 c hc (Nat.le_refl _), by rw [k2]; exact hc, by rw [k2]; exact h5, h6, h7.trans (hf.below h6 h7.size)⟩
  · refine (goto_no S bt l now v w h1 (by omega) (by omega)).mono ?_
    rintro e w' ⟨rfl, rfl⟩
    exact ⟨⟨_, rfl⟩, S, l, now, h1, h2, h3, h4, h5, h6, h7⟩

theorem do_good (bt m : Nat) (id : Int) (w0 w : World) (h : Good bt m w0 w) (hm : m ≤ 1000) :
    Calls Try.prog 30 #[.pointer (some ⟨bt, 0, none⟩), .int .i64 id] w fun e w' => (∃ v, e = .returned v) ∧ Good bt (m + 1) w0 w' := by
  obtain ⟨S, l, now, h1, h2, h3, h4, h5, h6, h7⟩ := h
  have hx := List.getElem?_eq_getElem h4
  have hd := h2.dep now _ hx
  have hk := h2.kids_len hx
  refine (do_any S bt l now id w h1 _ hx (by omega) hd.1 (by omega) (by omega)).mono ?_
  rintro e w' ⟨rfl, S', ht, hf, hs⟩
  refine ⟨⟨_, rfl⟩, S', doN l now id, l.length, ht, doN_wf h2 hx id, doN_lead h2 hx id h3, by rw [doN_len hx]; omega, by rw [doN_len hx]; omega, fun i hi => ?_, h7.trans (hf.below h6 h7.size)⟩
  rcases hs i hi with e | e
  · exact h6 i e
  · have := h7.size; omega

set_option maxRecDepth 100000 in
theorem kind_any (k d t : Int) (w : World) : Calls Try.prog 34 #[.agg #[.int .i64 k, .int .i64 d, .int .i64 t]] w fun e w' => (∃ r : Int, e = .returned (.int .i64 r) ∧ 0 ≤ r ∧ r < 6) ∧ Below w.heap.size w w' := by
  have h0 := Int.tmod_lt_of_pos k (show (0 : Int) < 6 by omega)
  have h1 := Int.lt_tmod_of_pos k (show (0 : Int) < 6 by omega)
  have hw1 : IntKind.i64.wrap (k.tmod 6) = k.tmod 6 := IntWalk.i64_in _ (by omega)
  have hw2 : IntKind.i64.wrap (k.tmod 6 + 6) = k.tmod 6 + 6 := IntWalk.i64_in _ (by omega)
  have h2 := Int.tmod_lt_of_pos (k.tmod 6 + 6) (show (0 : Int) < 6 by omega)
  have h3 := Int.tmod_nonneg 6 (show 0 ≤ k.tmod 6 + 6 by omega)
  have hw3 : IntKind.i64.wrap ((k.tmod 6 + 6).tmod 6) = (k.tmod 6 + 6).tmod 6 := IntWalk.i64_in _ (by omega)
  have H := Lib.hid (And.intro h3 h2)
  clear h0 h1 h2 h3
  go_enter Try.func34, Try.ntmps34
  go_wp2
  go_ret
  refine ⟨⟨(k.tmod 6 + 6).tmod 6, ?_, H.out⟩, below_alloc _ _⟩
  exact ret_eq (by simp [hw1, hw2, hw3])

set_option maxRecDepth 100000 in
set_option maxHeartbeats 4000000 in
theorem act_any (bt m : Nat) (k d t : Int) (w0 w : World) (h : Good bt m w0 w) (hm : m ≤ 1000) :
    Calls Try.prog 28 #[.pointer (some ⟨bt, 0, none⟩), .agg #[.int .i64 k, .int .i64 d, .int .i64 t]] w fun e w' => e = .returned (.tuple #[]) ∧ Good bt (m + 1) w0 w' := by
  have H := Lib.hid h
  have HM := Lib.hid hm
  obtain ⟨w1, hw1⟩ : ∃ w1, w1 = w.alloc (.cells #[.int .i64 k, .int .i64 d, .int .i64 t] 39) := ⟨_, rfl⟩
  have HW1 := Lib.hid hw1
  have HB1 : Hid (Below w.heap.size w w1) := Lib.hid (by rw [hw1]; exact below_alloc _ _)
  have h0 : w1.cell? ⟨w.heap.size, 0, none⟩ = some (.int .i64 k) := by rw [hw1]; exact acell rfl rfl
  have h1 : w1.cell? ⟨w.heap.size, 1, none⟩ = some (.int .i64 d) := by rw [hw1]; exact acell rfl rfl
  have h2 : w1.cell? ⟨w.heap.size, 2, none⟩ = some (.int .i64 t) := by rw [hw1]; exact acell rfl rfl
  have HC := Lib.hid (And.intro h1 h2)
  clear h hm hw1
  go_enter Try.func28, Try.ntmps28
  go_wp2_with fail
  rw [← HW1.out]
  refine (kind_any k d t w1).mono ?_
  rintro e w2 ⟨⟨r, rfl, hr0, hr5⟩, hb2⟩
  have HG : Hid (Good bt m w0 w2) := Lib.hid ((H.out.below HB1.out).below hb2)
  have HC1 := Lib.hid (below_cell hb2 HC.out.1)
  have HC2 := Lib.hid (below_cell hb2 HC.out.2)
  clear hb2 h0 h1 h2
  rcases (show r = 0 ∨ r = 1 ∨ r = 2 ∨ r = 3 ∨ r = 4 ∨ r = 5 by omega) with rfl | rfl | rfl | rfl | rfl | rfl
  · have hc := HC2.out
    go_wp2_with fail
    refine (do_good bt m t w0 w2 HG.out HM.out).mono ?_
    rintro e w3 ⟨⟨v, rfl⟩, hg⟩
    go_wp2
    go_end0
    exact ⟨rfl, hg⟩
  · have hc := HC2.out
    go_wp2_with fail
    refine (do_good bt m t w0 w2 HG.out HM.out).mono ?_
    rintro e w3 ⟨⟨v, rfl⟩, hg⟩
    go_wp2
    go_end0
    exact ⟨rfl, hg⟩
  · go_wp2_with fail
    refine (undo_good bt m w0 w2 HG.out HM.out).mono ?_
    rintro e w3 ⟨⟨v, rfl⟩, hg⟩
    go_wp2
    go_end0
    exact ⟨rfl, hg.mono (Nat.le_succ _)⟩
  · go_wp2_with fail
    refine (redo_good bt m w0 w2 HG.out HM.out).mono ?_
    rintro e w3 ⟨⟨v, rfl⟩, hg⟩
    go_wp2
    go_end0
    exact ⟨rfl, hg.mono (Nat.le_succ _)⟩
  · have hc := HC1.out
    go_wp2_with fail
    refine (redoto_good bt m d w0 w2 HG.out HM.out).mono ?_
    rintro e w3 ⟨⟨v, rfl⟩, hg⟩
    go_wp2
    go_end0
    exact ⟨rfl, hg.mono (Nat.le_succ _)⟩
  · have hc := HC1.out
    go_wp2_with fail
    refine (goto_good bt m d w0 w2 HG.out HM.out).mono ?_
    rintro e w3 ⟨⟨v, rfl⟩, hg⟩
    go_wp2
    go_end0
    exact ⟨rfl, hg.mono (Nat.le_succ _)⟩

theorem wf_one (id : Int) : WfT [⟨id, -1, -1, 0, []⟩] := by
  have hc : ∀ {i : Nat} {x : Nd}, [(⟨id, -1, -1, 0, []⟩ : Nd)][i]? = some x → i = 0 ∧ x = ⟨id, -1, -1, 0, []⟩ := by
    intro i x h
    have := (List.getElem?_eq_some_iff.1 h).1
    simp at this; subst this
    simp at h; exact ⟨rfl, h.symm⟩
  refine ⟨by simp, fun x hx => ?_, fun i x hx hi => ?_, fun i x hx => ?_, fun i x hx => ?_, fun i x hx => ?_, fun i x hx => ?_⟩ <;> obtain ⟨hi0, rfl⟩ := hc hx
  · exact ⟨rfl, rfl⟩
  · omega
  · exact .inl rfl
  · subst hi0; simp
  · refine ⟨List.Pairwise.nil, fun c => ⟨fun h => by simp at h, ?_⟩⟩
    rintro ⟨k, y, _, hy, hp⟩
    obtain ⟨_, rfl⟩ := hc hy
    simp only at hp; omega
  · exact ⟨fun _ => rfl, fun _ => rfl⟩

set_option maxRecDepth 100000 in
set_option maxHeartbeats 4000000 in
theorem begun_any (a : Option Addr) (n c : Nat) (L : List Ac) (w : World) (h : RdA w a n L) (hn : n ≤ 150) :
    Calls Try.prog 8 #[.slice a n c] w fun e w' => ∃ bt, e = .returned (.pointer (some ⟨bt, 0, none⟩)) ∧ Good bt 151 w w' := by
  have H := Lib.hid h
  have HN := Lib.hid hn
  have hn9 : (n : Int) ≤ 150 := by omega
  clear h hn
  go_enter Try.func8, Try.ntmps8
  go_wp2_with fail
  refine (alive_any w).mono ?_
  rintro e w1 ⟨rfl, hb1⟩
  have HB1 := Lib.hid hb1
  clear hb1
  go_wp2_with fail
  refine (new_any 1 w1).mono ?_
  rintro e w2 ⟨rfl, ht, hb2⟩
  have HG : Hid (Good (w1.heap.size + 1) 1 w w2) := Lib.hid ⟨_, _, 0, ht, wf_one 1, .root, by simp, by simp, fun i hi => Nat.le_trans HB1.out.size hi, HB1.out.trans (hb2.mono HB1.out.size)⟩
  clear ht hb2
  generalize w1.heap.size + 1 = bt at *
  go_wp2
  go_loopw [11] (fun iv wr => ∃ i : Nat, i ≤ n ∧ iv = .int .i64 i ∧ Good bt (i + 1) w wr) (fun iv _ => n - (intOf iv).toNat)
  case atStart => exact ⟨0, by omega, rfl, HG.out⟩
  case round =>
    obtain ⟨i, hi, rfl, hg⟩ := hrel
    have HG := Lib.hid hg
    by_cases hlt : i < n
    · have hx := List.getElem?_eq_getElem (show i < L.length by rw [H.out.len]; exact hlt)
      obtain ⟨⟨k, d, t⟩, hx⟩ : ∃ x, L[i]? = some x := ⟨_, hx⟩
      have hb : Below w.heap.size w wr := by obtain ⟨_, _, _, _, _, _, _, _, _, h7⟩ := hg; exact h7
      obtain ⟨b, off, rfl, c0, c1, c2⟩ := (H.out.below hb).cell i _ hx
      simp only at c0 c1 c2
      have hlt2 : (i : Int) < (n : Int) := by omega
      have HLT := Lib.hid hlt
      have hi9 : (i : Int) ≤ 150 := by omega
      clear hx hb hg
      go_wp2_with fail
      refine (act_any bt (i + 1) k d t w _ (HG.out.below (below_alloc _ _)) (by have := HLT.out; have := HN.out; omega)).mono ?_
      rintro e w3 ⟨rfl, hg3⟩
      go_wp2
      go_roundw
      case rel => exact ⟨i + 1, hlt, by go_num, hg3⟩
      case measure => simp [intOf]; omega
    · obtain rfl : i = n := by omega
      go_wp2
      go_ret
      exact ⟨bt, rfl, HG.out.mono (by have := HN.out; omega)⟩

end Go.Proofs.Ytjajlnhobchkgaa
